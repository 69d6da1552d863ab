/- What layer 7's Put computes. -/
import Derived.Test.YtominjooffecnaaWPkB
namespace Go.Proofs.Ytominjooffecnaa.WPk
open Go.RowKit Kn

def putsN (L : List Pkt.Ln) : List UInt8 × Nat := match Pkt.puts L with | none => ([], 1) | some s => (s, 0)

theorem putsN_bad (L : List Pkt.Ln) (k : Nat) (h : k < L.length) (hf : Pkt.fine L[k] = false) : putsN L = ([], 1) := by
  have : L.all Pkt.fine = false := by
    rw [List.all_eq_false]
    exact ⟨L[k], List.getElem_mem h, by rw [hf]; simp⟩
  rw [putsN, Pkt.puts, if_neg (by rw [this]; simp)]

theorem putsN_good (L : List Pkt.Ln) (h : L.all Pkt.fine = true) : putsN L = (L.flatMap Pkt.bytes, 0) := by
  rw [putsN, Pkt.puts, if_pos h]

theorem all_take_succ (L : List Pkt.Ln) (k : Nat) (h : k < L.length) (ha : (L.take k).all Pkt.fine = true) (hf : Pkt.fine L[k] = true) : (L.take (k + 1)).all Pkt.fine = true := by
  rw [List.take_succ_eq_append_getElem h, List.all_append, ha]
  simp [hf]
theorem flat_take_succ (L : List Pkt.Ln) (k : Nat) (h : k < L.length) : (L.take (k + 1)).flatMap Pkt.bytes = (L.take k).flatMap Pkt.bytes ++ Pkt.bytes L[k] := by
  rw [List.take_succ_eq_append_getElem h, List.flatMap_append, List.flatMap_cons, List.flatMap_nil, List.append_nil]

theorem fig_size (n : Nat) : (⟨(Pkt.figures n).toArray⟩ : ByteArray).size = 4 := by rw [size_mk]; rfl

/-- a new line's cells stay behind a call -/
theorem cell_new (wr : World) (q : Int) (l : List UInt8) : ∀ w1 : World, Below (wr.heap.size + 1) (wr.alloc (.cells #[.int .i64 q, .string ⟨l.toArray⟩] 34)).drew w1 → w1.cell? ⟨wr.heap.size, 1, none⟩ = some (.string ⟨l.toArray⟩) := by
  intro w1 hb
  rw [hb.cell (p := ⟨wr.heap.size, 1, none⟩) (by simp)]
  have : (wr.alloc (.cells #[.int .i64 q, .string ⟨l.toArray⟩] 34)).drew.heap[wr.heap.size]? = some (.cells #[.int .i64 q, .string ⟨l.toArray⟩] 34 (0, 0)) := heap_alloc_new wr _
  rw [cell_of_row _ wr.heap.size 1 _ 34 (0, 0) this]
  rfl

set_option maxRecDepth 100000 in
set_option maxHeartbeats 4000000 in
theorem put_any (A : Option Addr) (cap : Nat) (L : List Pkt.Ln) (w : World) (hL : L.length ≤ 1000) (hcap : L.length ≤ cap) (hcm : cap ≤ 9223372036854775807) (hp : Pk w A L) (hload : ∀ i, (h : i < L.length) → (L[i]).load.length ≤ 5000) :
    Calls Try.prog 43 #[.slice A L.length cap] w fun e w' => e = .returned (.tuple #[.string ⟨(putsN L).1.toArray⟩, .int .i64 (putsN L).2]) ∧ Below w.heap.size w w' := by
  have HL := Lib.hid hload
  clear hload
  go_enter Try.func43, Try.ntmps43
  go_wp2
  go_loopw [4, 9] (fun v i wr => ∃ (k : Nat) (out : ByteArray), k ≤ L.length ∧ i = .int .i64 k ∧ v = .string out ∧ out.size ≤ 1004 * k ∧ Hid (out.data.toList = (L.take k).flatMap Pkt.bytes ∧ (L.take k).all Pkt.fine = true) ∧ Below w.heap.size w wr) (fun _ i _ => L.length - (intOf i).toNat)
  case atStart => exact ⟨0, ⟨#[]⟩, Nat.zero_le _, rfl, rfl, Nat.zero_le _, ⟨rfl, rfl⟩, Below.refl _ _⟩
  case round =>
    obtain ⟨k, out, hk, rfl, rfl, hos, HO, hbel⟩ := hrel
    by_cases hlt : k < L.length
    · have hp' := hp.below hbel
      rcases hp' with h0 | ⟨b, off, rfl, hbw, hc⟩
      · rw [h0] at hlt; simp at hlt
      · obtain ⟨hc1, hc2⟩ := hc k hlt
        have hlt' : (k : Int) < (L.length : Int) := by omega
        have hk0 : (0 : Int) ≤ (k : Int) := by omega
        have hl5 := HL.out k hlt
        have HF := Lib.hid (putsN_bad L k hlt)
        have HA := Lib.hid (fun h => all_take_succ L k hlt HO.out.2 h)
        have HT := Lib.hid (flat_take_succ L k hlt)
        clear hc
        obtain ⟨q, l, hql⟩ : ∃ q l, L[k] = ⟨q, l⟩ := ⟨_, _, rfl⟩
        rw [hql] at hc1 hc2 hl5 HF HA HT
        simp only at hc1 hc2 hl5
        have HQ := Lib.hid hql
        clear hql
        by_cases h0 : q = 0
        · subst h0
          by_cases hs : l.length ≤ 1000
          · have hf : Pkt.fine ⟨0, l⟩ = true := by simp [Pkt.fine]; omega
            have HB := Lib.hid (show Pkt.bytes ⟨0, l⟩ = Pkt.figures (4 + l.length) ++ l by rw [Pkt.bytes, if_pos rfl])
            have HFF := Lib.hid hf
            clear hf
            have hwr : IntKind.i64.wrap (4 + (l.length : Int)) = 4 + (l.length : Int) := by rw [IntKind.wrap_i64]; omega
            have HH := Lib.hid (cell_new wr 0 l)
            have hfl := Pkt.figures_length
            go_wp2
            go_region_with (go_at_call 66; refine (figuresI _ (by omega) (by omega) _).mono ?_; rintro e w1 ⟨rfl, hb1⟩; have hcl := HH.out w1 (by simpa using hb1))
            all_goals
              have hbel' : Below w.heap.size w w1 := hbel.trans ((((Below.refl _ _).alloc (Nat.le_refl _) (.cells #[.int .i64 0, .string ⟨l.toArray⟩] 34)).drew.trans (hb1.mono (by simp))).mono hbel.size)
              clear hwr hcl
              go_wp2
              go_roundw
              case rel =>
                refine ⟨k + 1, _, by omega, by go_num, rfl, ?_, ⟨?_, HA.out HFF.out⟩, hbel'⟩
                · have e1 := size_mk l
                  simp only [ByteArray.size_append, fig_size]
                  omega
                · rw [cat_data, cat_data, HT.out, HB.out, HO.out.1]
                  try simp
                  try omega
              case measure => simp [intOf]; omega
          · have hf : Pkt.fine ⟨0, l⟩ = false := by simp [Pkt.fine]; omega
            have HE := Lib.hid (HF.out hf)
            have hs' : decide ((l.length : Int) ≤ 1000) = false := by simp; omega
            clear hf
            go_wp2
            go_ret2
            exact ⟨by rw [HE.out]; rfl, balloc hbel _⟩
        · have hk0' : (q == 0) = false := by simpa using h0
          by_cases h12 : q = 1 ∨ q = 2
          · cases l with
            | nil =>
              rcases h12 with rfl | rfl
              · have hf : Pkt.fine ⟨1, []⟩ = true := rfl
                have HFF := Lib.hid hf
                clear hf h0
                go_wp2_with fail
                refine (figuresI _ (by omega) (by omega) _).mono ?_
                rintro e w1 ⟨rfl, hb1⟩
                have hbel' := bnext (balloc hbel _) hb1
                have hfl := Pkt.figures_length
                go_wp2
                go_roundw
                case rel =>
                  refine ⟨k + 1, _, by omega, by go_num, rfl, ?_, ⟨?_, HA.out HFF.out⟩, hbel'⟩
                  · simp only [ByteArray.size_append, fig_size]
                    omega
                  · rw [cat_data, HT.out, HO.out.1]; rfl
                case measure => simp [intOf]; omega
              · have hf : Pkt.fine ⟨2, []⟩ = true := rfl
                have HFF := Lib.hid hf
                clear hf h0
                go_wp2_with fail
                refine (figuresI _ (by omega) (by omega) _).mono ?_
                rintro e w1 ⟨rfl, hb1⟩
                have hbel' := bnext (balloc hbel _) hb1
                have hfl := Pkt.figures_length
                go_wp2
                go_roundw
                case rel =>
                  refine ⟨k + 1, _, by omega, by go_num, rfl, ?_, ⟨?_, HA.out HFF.out⟩, hbel'⟩
                  · simp only [ByteArray.size_append, fig_size]
                    omega
                  · rw [cat_data, HT.out, HO.out.1]; rfl
                case measure => simp [intOf]; omega
            | cons c l =>
              have hf : Pkt.fine ⟨q, c :: l⟩ = false := by
                rcases h12 with rfl | rfl <;> simp [Pkt.fine]
              have HE := Lib.hid (HF.out hf)
              clear hf h0
              rcases h12 with rfl | rfl
              all_goals
                go_wp2
                go_ret2
                exact ⟨by rw [HE.out]; rfl, balloc hbel _⟩
          · have hk1 : (q == 1) = false := by simp; omega
            have hk2 : (q == 2) = false := by simp; omega
            have hf : Pkt.fine ⟨q, l⟩ = false := by simp only [Pkt.fine, hk0', hk1, hk2]; rfl
            have HE := Lib.hid (HF.out hf)
            clear hf h12 h0
            go_wp2
            go_ret2
            exact ⟨by rw [HE.out]; rfl, balloc hbel _⟩
    · obtain rfl : k = L.length := by omega
      have HG := Lib.hid (putsN_good L (by have := HO.out.2; rwa [List.take_length] at this))
      have HO2 := Lib.hid (show out.data.toList = L.flatMap Pkt.bytes by have := HO.out.1; rwa [List.take_length] at this)
      clear HO
      go_wp2
      go_ret2
      exact ⟨ret2 (by rw [HG.out, HO2.out]) (by rw [HG.out]; rfl), hbel⟩
end Go.Proofs.Ytominjooffecnaa.WPk
