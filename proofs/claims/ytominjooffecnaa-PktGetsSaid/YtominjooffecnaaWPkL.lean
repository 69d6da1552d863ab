/- The rows of layer 7's examples; the walk of the law PktPuts. -/
import Derived.Test.YtominjooffecnaaWPkR
import Derived.Test.YtominjooffecnaaWPkG
namespace Go.Proofs.Ytominjooffecnaa.WPk
open Go.RowKit Kn

set_option maxRecDepth 100000 in
set_option maxHeartbeats 2000000 in
theorem knows_any (w : World) : Calls Try.prog 42 #[] w fun e w' => e = .returned (.bool true) ∧ Below w.heap.size w w' := by
  have k1 : putsN [⟨0, [104, 105]⟩, ⟨1, []⟩] = ([48, 48, 48, 54, 104, 105, 48, 48, 48, 48], 0) := by decide +kernel
  have k2 : getPN [48, 48, 48, 51] = (⟨0, []⟩, [], 2) := by rfl
  have k3 : getPN [48, 48, 48, 54, 104] = (⟨0, []⟩, [], 2) := by rfl
  go_enter Try.func42, Try.ntmps42
  go_wp2_with fail
  refine (put_any (some ⟨w.heap.size, 0, none⟩) 2 [⟨0, [104, 105]⟩, ⟨1, []⟩] _ (by decide) (by decide) (by decide) ?_ ?_).mono ?_
  · refine .inr ⟨w.heap.size, 0, rfl, by simp, fun i hi => ?_⟩
    match i, hi with
    | 0, _ => simp
    | 1, _ => simp
  · intro i hi
    match i, hi with
    | 0, _ => simp
    | 1, _ => simp
  rintro e w1 ⟨rfl, hb1⟩
  rw [k1]
  have hB1 := bnext ((Below.refl _ _).alloc (Nat.le_refl _) _) hb1
  clear hb1
  go_wp2_with fail
  refine (get_any _ _ (by decide)).mono ?_
  rintro e w2 ⟨rfl, hb2⟩
  rw [show (⟨#[48, 48, 48, 51]⟩ : ByteArray).data.toList = [48, 48, 48, 51] from rfl, k2]
  have hB2 := bnext hB1 hb2
  clear hB1 hb2
  go_wp2_with fail
  refine (get_any _ _ (by decide)).mono ?_
  rintro e w3 ⟨rfl, hb3⟩
  rw [show (⟨#[48, 48, 48, 54, 104]⟩ : ByteArray).data.toList = [48, 48, 48, 54, 104] from rfl, k3]
  have hB3 := bnext (balloc hB2 _) hb3
  clear hB2 hb3
  go_wp2
  go_ret
  exact ⟨rfl, balloc hB3 _⟩

set_option maxRecDepth 100000 in
set_option maxHeartbeats 2000000 in
theorem puts (A : Option Addr) (cap : Nat) (L : List Pkt.Ln) (w : World) (hcap : L.length ≤ cap) (hcm : cap ≤ 9223372036854775807) (hp : Pk w A L) (hload : ∀ i, (h : i < L.length) → (L[i]).load.length ≤ 9223372036854775807) :
    Calls Try.prog 10 #[.slice A L.length cap] w fun e w' => e = .returned (.bool true) ∧ Below w.heap.size w w' := by
  go_enter Try.func10, Try.ntmps10
  go_wp2_with fail
  refine (few_any A cap L _ hcap hcm hp hload).mono ?_
  rintro e w1 ⟨rfl, rfl⟩
  have HL := Lib.hid hload
  clear hload
  cases hf : fewB L
  · clear hf
    go_wp2_with fail
    refine (knows_any _).mono ?_
    rintro e w2 ⟨rfl, hb2⟩
    go_wp2
    go_ret
    exact ⟨rfl, hb2⟩
  · obtain ⟨f1, f2⟩ := fewB_true hf
    have HF := Lib.hid f2
    clear hf f2
    go_wp2_with fail
    refine (put_any A cap L _ (by omega) hcap hcm hp (fun i h => by have := HF.out i h; omega)).mono ?_
    rintro e w2 ⟨rfl, hb2⟩
    have hp2 := hp.below hb2
    go_wp2_with fail
    refine (as_any A cap L _ (by omega) hcap hcm hp2).mono ?_
    rintro e w3 ⟨v, rfl, hown, hb3⟩
    obtain ⟨A3, c3, rfl, hc1, hc2⟩ := own_slice hown
    have hp3 := (pk_own hown).2
    unfold maxLen at hc2
    go_wp2_with fail
    refine (putR_any A3 c3 L _ (by omega) hc1 hc2 hp3 (fun i h => by have := HF.out i h; omega)).mono ?_
    rintro e w4 ⟨rfl, hb4⟩
    have hB := bnext (bnext hb2 hb3) hb4
    clear hb2 hb3 hb4 hp2 hp3 hown
    have HC : Hid ((putsN L = ([], 1) ∧ putsR L = ([], false)) ∨ ∃ s, putsN L = (s, 0) ∧ putsR L = (s, true)) := by
      unfold putsN putsR
      cases Pkt.puts L with
      | none => exact .inl ⟨rfl, rfl⟩
      | some s => exact .inr ⟨s, rfl, rfl⟩
    rcases HC.out with ⟨c1, c2⟩ | ⟨s, c1, c2⟩
    all_goals
      rw [c1, c2]
      clear c1 c2
      go_wp2_with fail
      refine (knows_any _).mono ?_
      rintro e w5 ⟨rfl, hb5⟩
      go_wp2
      go_ret
      exact ⟨rfl, bnext hB hb5⟩
end Go.Proofs.Ytominjooffecnaa.WPk
