/- The walk of the law DeltaSteps. -/
import Derived.Test.YtominjooffecnaaWDlD
namespace Go.Proofs.Ytominjooffecnaa.WDl
open Go.RowKit Kn WVi

set_option maxRecDepth 100000 in
set_option maxHeartbeats 4000000 in
theorem steps_big (base : ByteArray) (_hb : base.size ≤ 9223372036854775807) (A : Option Addr) (cap : Nat) (L : List Stp) (t0 t1 t2 : Int) (w : World) (_hT : L.length ≤ cap) (_hcm : cap ≤ 9223372036854775807) (h : 400 < base.size ∨ 30 < L.length ∨ 20000 < t2) :
    Calls Try.prog 14 #[.string base, .slice A L.length cap, .agg #[.int .i64 t0, .int .i64 t1, .int .i64 t2]] w fun e w' => e = .returned (.bool true) ∧ Below w.heap.size w w' := by
  by_cases h1 : 400 < base.size
  · clear h
    go_enter Try.func14, Try.ntmps14
    go_wp2_with fail
    refine (knows_any _).mono ?_
    rintro e w2 ⟨rfl, hb2⟩
    have hB2 := bnext (balloc (Below.refl _ w) _) hb2
    go_wp2
    go_ret
    exact ⟨rfl, hB2⟩
  · by_cases h2 : 30 < L.length
    · clear h
      go_enter Try.func14, Try.ntmps14
      go_wp2_with fail
      refine (knows_any _).mono ?_
      rintro e w2 ⟨rfl, hb2⟩
      have hB2 := bnext (balloc (Below.refl _ w) _) hb2
      go_wp2
      go_ret
      exact ⟨rfl, hB2⟩
    · have h3 : 20000 < t2 := by omega
      clear h
      go_enter Try.func14, Try.ntmps14
      go_wp2_with fail
      refine (knows_any _).mono ?_
      rintro e w2 ⟨rfl, hb2⟩
      have hB2 := bnext (balloc (Below.refl _ w) _) hb2
      go_wp2
      go_ret
      exact ⟨rfl, hB2⟩

set_option maxRecDepth 100000 in
set_option maxHeartbeats 4000000 in
theorem steps_good (base : ByteArray) (hb : base.size ≤ 400) (A : Option Addr) (cap : Nat) (L : List Stp) (t0 t1 t2 : Int) (w : World) (hL : L.length ≤ 30) (hcap : L.length ≤ cap) (hcm : cap ≤ 9223372036854775807) (h2 : t2 ≤ 20000) (hm1 : -9223372036854775808 ≤ t2)
    (hs : St w A L) (htext : ∀ i, (h : i < L.length) → (L[i]).text.length ≤ 9223372036854775807 ∧ -9223372036854775808 ≤ (L[i]).n ∧ (L[i]).n ≤ 9223372036854775807) :
    Calls Try.prog 14 #[.string base, .slice A L.length cap, .agg #[.int .i64 t0, .int .i64 t1, .int .i64 t2]] w fun e w' => e = .returned (.bool true) ∧ Below w.heap.size w w' := by
  have HT := Lib.hid htext
  clear htext
  have hm2 : t2 ≤ 9223372036854775807 := by omega
  have hal : Below w.heap.size w (w.alloc (.cells #[.int .i64 t0, .int .i64 t1, .int .i64 t2] 79)) := balloc (Below.refl _ _) _
  have hsA := hs.below hal
  go_enter Try.func14, Try.ntmps14
  go_wp2
  go_loopw [7] (fun iv wr => ∃ k : Nat, iv = .int .i64 k ∧ k ≤ L.length ∧ wr.heap[w.heap.size]? = some (.cells #[.int .i64 t0, .int .i64 t1, .int .i64 t2] 79 (0, 0)) ∧ Below w.heap.size w wr ∧ Hid (∀ i, (h : i < L.length) → i < k → (L[i]).text.length ≤ 100 ∧ 0 ≤ (L[i]).n)) (fun iv _ => L.length - (intOf iv).toNat)
  case atStart => exact ⟨0, rfl, Nat.zero_le _, heap_alloc_new w _, hal, fun i h hi => absurd hi (by omega)⟩
  case round =>
    obtain ⟨k, rfl, hk, hrow, hbel, HO⟩ := hrel
    have hs' := hs.below hbel
    have hgw : w.heap.size < wr.heap.size := lt_of_block hrow
    by_cases hlt : k < L.length
    · rcases hs' with h0 | ⟨b, off, rfl, hbw, hc⟩
      · rw [h0] at hlt; simp at hlt
      · obtain ⟨c0, c1, c2⟩ := hc k hlt
        obtain ⟨l0, n0, n1⟩ := HT.out k hlt
        have hlt' : (k : Int) < (L.length : Int) := by omega
        have hk0 : (0 : Int) ≤ (k : Int) := by omega
        have hHR := Lib.hid hrow
        clear hc hrow
        by_cases h100 : (L[k]).text.length ≤ 100 ∧ 0 ≤ (L[k]).n
        · have HN : Hid (∀ i, (h : i < L.length) → i < k + 1 → (L[i]).text.length ≤ 100 ∧ 0 ≤ (L[i]).n) := by
            intro i h hi
            by_cases hik : i = k
            · subst hik; exact h100
            · exact HO.out i h (by omega)
          obtain ⟨g1, g2⟩ := h100
          clear HO
          go_wp2
          go_roundw
          case rel => exact ⟨k + 1, by go_num, by omega, hHR.out, hbel, HN⟩
          case measure => simp [intOf]; omega
        · clear HO
          by_cases h1 : 100 < (L[k]).text.length
          · clear h100
            go_wp2_with fail
            refine (knows_any _).mono ?_
            rintro e w7 ⟨rfl, hb7⟩
            go_wp2
            go_ret
            exact ⟨rfl, bnext hbel hb7⟩
          · have h3 : (L[k]).n < 0 := by omega
            clear h100
            go_wp2_with fail
            refine (knows_any _).mono ?_
            rintro e w7 ⟨rfl, hb7⟩
            go_wp2
            go_ret
            exact ⟨rfl, bnext hbel hb7⟩
    · obtain rfl : k = L.length := by omega
      have HA : Hid (∀ i, (h : i < L.length) → (L[i]).text.length ≤ 100 ∧ 0 ≤ (L[i]).n ∧ (L[i]).n ≤ 9223372036854775807) := by
        intro i h
        exact ⟨(HO.out i h h).1, (HO.out i h h).2, (HT.out i h).2.2⟩
      have c0 : wr.cell? ⟨w.heap.size, 0, none⟩ = some (.int .i64 t0) := by rw [cell_of_row _ _ _ _ _ _ hrow]; rfl
      have c1 : wr.cell? ⟨w.heap.size, 1, none⟩ = some (.int .i64 t1) := by rw [cell_of_row _ _ _ _ _ _ hrow]; rfl
      clear HO HT hlt
      go_wp2_with fail
      refine (delta_any t0 t1 A cap L _ hL hcap hcm hs' HA.out).mono ?_
      rintro e w1 ⟨d, rfl, hd, hb1⟩
      have hrow1 := (hb1.block _ hgw).trans hrow
      have hgw1 : w.heap.size < w1.heap.size := lt_of_block hrow1
      have e2 : w1.cell? ⟨w.heap.size, 2, none⟩ = some (.int .i64 t2) := by rw [cell_of_row _ _ _ _ _ _ hrow1]; rfl
      have hB1 := bnext hbel hb1
      have HR1 := Lib.hid hrow1
      clear hb1 hbel c0 c1 hrow hrow1 hs'
      go_wp2_with fail
      refine (apply_any base d t2 (by omega) hd hm1 hm2 _).mono ?_
      rintro e w2 ⟨rfl, hb2⟩
      have hrow2 := (hb2.block _ hgw1).trans HR1.out
      have f2 : w2.cell? ⟨w.heap.size, 2, none⟩ = some (.int .i64 t2) := by rw [cell_of_row _ _ _ _ _ _ hrow2]; rfl
      have hB2 := bnext hB1 hb2
      clear hb2 hB1 hrow2
      go_wp2_with fail
      refine (applyR_any base d t2 (by omega) hd hm1 hm2 _).mono ?_
      rintro e w3 ⟨rfl, rfl⟩
      generalize Dl.apply base.data.toList d.data.toList t2 = r
      obtain ⟨x, n⟩ := r
      go_wp2_with fail
      refine (knows_any _).mono ?_
      rintro e w7 ⟨rfl, hb7⟩
      go_wp2
      go_ret
      exact ⟨rfl, bnext hB2 hb7⟩

theorem steps (base : ByteArray) (hb : base.size ≤ 140737488351232) (A : Option Addr) (cap : Nat) (L : List Stp) (t0 t1 t2 : Int) (w : World) (hcap : L.length ≤ cap) (hcm : cap ≤ 9223372036854775807) (hs : St w A L)
    (htext : ∀ i, (h : i < L.length) → (L[i]).text.length ≤ 9223372036854775807 ∧ -9223372036854775808 ≤ (L[i]).n ∧ (L[i]).n ≤ 9223372036854775807) (hm1 : -9223372036854775808 ≤ t2) :
    Calls Try.prog 14 #[.string base, .slice A L.length cap, .agg #[.int .i64 t0, .int .i64 t1, .int .i64 t2]] w fun e w' => e = .returned (.bool true) ∧ Below w.heap.size w w' := by
  by_cases h : 400 < base.size ∨ 30 < L.length ∨ 20000 < t2
  · exact steps_big base (by omega) A cap L t0 t1 t2 w hcap hcm h
  · exact steps_good base (by omega) A cap L t0 t1 t2 w (by omega) hcap hcm (by omega) hm1 hs htext
end Go.Proofs.Ytominjooffecnaa.WDl
