/- The reference's Fine and Bytes of a line. -/
import Derived.Test.YtominjooffecnaaWPkF
import Derived.Test.YtominjooffecnaaWPkS
namespace Go.Proofs.Ytominjooffecnaa.WPk
open Go.RowKit Kn

theorem figuresI (x : Int) (h0 : 0 ≤ x) (h1 : x < 65536) (w : World) : Calls Try.prog 66 #[.int .i64 x] w fun e w' => e = .returned (.string ⟨(Pkt.figures x.toNat).toArray⟩) ∧ Below w.heap.size w w' := by
  obtain ⟨n, rfl⟩ := Int.eq_ofNat_of_zero_le h0
  exact figures_any n (by omega) w
theorem figuresRI (x : Int) (h0 : 0 ≤ x) (h1 : x < 65536) (w : World) : Calls Try.prog 70 #[.int .i64 x] w fun e w' => e = .returned (.string ⟨(Pkt.figures x.toNat).toArray⟩) ∧ Below w.heap.size w w' := by
  obtain ⟨n, rfl⟩ := Int.eq_ofNat_of_zero_le h0
  exact figuresR_any n (by omega) w

theorem fine_nil (s : List UInt8) : ((⟨s.toArray⟩ : ByteArray).toList == []) = s.isEmpty := by
  rw [Lib.toList_data]
  cases s <;> rfl

set_option maxRecDepth 100000 in
set_option maxHeartbeats 1000000 in
theorem fine_any (p : Pkt.Ln) (w : World) (hl : p.load.length ≤ 9223372036854775807) :
    Calls Try.prog 67 #[.agg #[.int .i64 p.kind, .string ⟨p.load.toArray⟩]] w fun e w' => e = .returned (.bool (Pkt.fine p)) ∧ Below w.heap.size w w' := by
  obtain ⟨k, l⟩ := p
  simp only at hl ⊢
  by_cases h0 : k = 0
  · subst h0
    by_cases hs : l.length ≤ 1000
    · have hf : Pkt.fine ⟨0, l⟩ = true := by simp [Pkt.fine]; omega
      rw [hf]
      clear hf
      go_enter Try.func67, Try.ntmps67
      go_wp2
      go_ret
      exact ⟨rfl, (Below.refl _ _).alloc (Nat.le_refl _) _⟩
    · have hf : Pkt.fine ⟨0, l⟩ = false := by simp [Pkt.fine]; omega
      rw [hf]
      clear hf
      have hs' : decide ((l.length : Int) ≤ 1000) = false := by simp; omega
      go_enter Try.func67, Try.ntmps67
      go_wp2
      go_ret
      exact ⟨by rw [← hs']; rfl, (Below.refl _ _).alloc (Nat.le_refl _) _⟩
  · have hk0 : (k == 0) = false := by simpa using h0
    by_cases h12 : k = 1 ∨ k = 2
    · have hf : Pkt.fine ⟨k, l⟩ = l.isEmpty := by
        rcases h12 with rfl | rfl <;> simp [Pkt.fine]
      rw [hf]
      clear hf h0
      cases l with
      | nil =>
        rcases h12 with rfl | rfl
        all_goals
          go_enter Try.func67, Try.ntmps67
          go_wp2
          go_ret
          exact ⟨rfl, (Below.refl _ _).alloc (Nat.le_refl _) _⟩
      | cons c l =>
        rcases h12 with rfl | rfl
        all_goals
          go_enter Try.func67, Try.ntmps67
          go_wp2
          go_ret
          exact ⟨rfl, (Below.refl _ _).alloc (Nat.le_refl _) _⟩
    · have hk1 : (k == 1) = false := by simp; omega
      have hk2 : (k == 2) = false := by simp; omega
      have hf : Pkt.fine ⟨k, l⟩ = false := by simp only [Pkt.fine, hk0, hk1, hk2]; rfl
      rw [hf]
      clear hf h12 h0
      go_enter Try.func67, Try.ntmps67
      go_wp2
      go_ret
      exact ⟨rfl, (Below.refl _ _).alloc (Nat.le_refl _) _⟩

set_option maxRecDepth 100000 in
set_option maxHeartbeats 1000000 in
theorem bytes_any (p : Pkt.Ln) (w : World) (hl : p.load.length ≤ 1000) (hf : Pkt.fine p = true) :
    Calls Try.prog 68 #[.agg #[.int .i64 p.kind, .string ⟨p.load.toArray⟩]] w fun e w' => e = .returned (.string ⟨(Pkt.bytes p).toArray⟩) ∧ Below w.heap.size w w' := by
  obtain ⟨k, l⟩ := p
  simp only at hl ⊢
  by_cases h0 : k = 0
  · subst h0
    have HB := Lib.hid (show Pkt.bytes ⟨0, l⟩ = Pkt.figures (4 + l.length) ++ l by rw [Pkt.bytes, if_pos rfl])
    clear hf
    have hwr : IntKind.i64.wrap (4 + (l.length : Int)) = 4 + (l.length : Int) := by rw [IntKind.wrap_i64]; omega
    have HW : ∀ w1 : World, Below (w.heap.size + 1) (w.alloc (.cells #[.int .i64 0, .string ⟨l.toArray⟩] 67)).drew w1 → w1.cell? ⟨w.heap.size, 1, none⟩ = some (.string ⟨l.toArray⟩) := by
      intro w1 hb
      rw [hb.cell (p := ⟨w.heap.size, 1, none⟩) (by simp)]
      have : (w.alloc (.cells #[.int .i64 0, .string ⟨l.toArray⟩] 67)).drew.heap[w.heap.size]? = some (.cells #[.int .i64 0, .string ⟨l.toArray⟩] 67 (0, 0)) := heap_alloc_new w _
      rw [cell_of_row _ w.heap.size 1 _ 67 (0, 0) this]
      rfl
    have HH := Lib.hid HW
    clear HW
    have hfl := Pkt.figures_length
    go_enter Try.func68, Try.ntmps68
    go_wp2
    go_region_with (go_at_call 70; refine (figuresRI _ (by omega) (by omega) _).mono ?_; rintro e w1 ⟨rfl, hb1⟩; have hc1 := HH.out w1 (by simpa using hb1))
    all_goals
      go_wp2
      go_ret
      refine ⟨ret_bytes ?_, bnext (((Below.refl _ _).alloc (Nat.le_refl _) _).drew) (by simpa using hb1)⟩
      rw [cat_data, HB.out]
      try simp
      try omega
  · have h12 : k = 1 ∨ k = 2 := by
      simp [Pkt.fine, h0] at hf
      exact hf.1
    have hk0 : (k == 0) = false := by simpa using h0
    rcases h12 with rfl | rfl
    · have HF := Lib.hid (figuresR_any 0 (by omega))
      clear hf h0
      go_enter Try.func68, Try.ntmps68
      go_wp2_with fail
      refine (HF.out _).mono ?_
      rintro e w1 ⟨rfl, hb1⟩
      go_wp2
      go_ret
      exact ⟨rfl, bnext ((Below.refl _ _).alloc (Nat.le_refl _) _) hb1⟩
    · have HF := Lib.hid (figuresR_any 1 (by omega))
      clear hf h0
      go_enter Try.func68, Try.ntmps68
      go_wp2_with fail
      refine (HF.out _).mono ?_
      rintro e w1 ⟨rfl, hb1⟩
      go_wp2
      go_ret
      exact ⟨rfl, bnext ((Below.refl _ _).alloc (Nat.le_refl _) _) hb1⟩
end Go.Proofs.Ytominjooffecnaa.WPk
