/- few: are steps such as are gone through (layer 24)? -/
import Derived.Test.YtominjooffecnaaWLkD
import Derived.Test.YtominjooffecnaaWLkB
namespace Go.Proofs.Ytominjooffecnaa.WLk
open Go.RowKit Kn

/-- steps such as are gone through -/
def Few (L : List Stp) : Prop := L.length ≤ 80 ∧ ∀ i, (h : i < L.length) → (L[i]).text.length ≤ 700

set_option maxRecDepth 100000 in
set_option maxHeartbeats 2000000 in
theorem few_any (A : Option Addr) (cap : Nat) (L : List Stp) (w : World) (hs : Sts w A L) (hok : ∀ i, (h : i < L.length) → StpOk L[i]) :
    Calls Try.prog 54 #[.slice A L.length cap] w fun e w' => (∃ b, e = .returned (.bool b) ∧ (b = true → Few L)) ∧ Below w.heap.size w w' := by
  have HOK := Lib.hid hok
  clear hok
  have HF : Hid ((∀ i, (h : i < L.length) → i < 80 → (L[i]).text.length ≤ 700) → L.length ≤ 80 → Few L) := fun h1 h2 => ⟨h2, fun i hi => h1 i hi (by omega)⟩
  go_enter Try.func54, Try.ntmps54
  go_wp2
  go_loopw [3] (fun iv wr => ∃ k : Nat, iv = .int .i64 k ∧ k ≤ L.length ∧ k ≤ 80 ∧ Hid (∀ i, (h : i < L.length) → i < k → (L[i]).text.length ≤ 700) ∧ wr = w) (fun iv _ => L.length - (intOf iv).toNat)
  case atStart => exact ⟨0, rfl, Nat.zero_le _, Nat.zero_le _, fun i _ h => by omega, rfl⟩
  case round =>
    obtain ⟨k, rfl, hk, hk80, hall, rfl⟩ := hrel
    have hk0 : (0 : Int) ≤ (k : Int) := by omega
    by_cases hlt : k < L.length
    · have hlt' : (k : Int) < (L.length : Int) := by omega
      by_cases h80 : k < 80
      · have h80' : (k : Int) < 80 := by omega
        rcases hs with h0 | ⟨b, off, rfl, hbl, hc⟩
        · rw [h0] at hlt; simp at hlt
        have c2 := (hc k hlt).c2
        have hkt := (HOK.out k hlt).text
        clear hc
        have HL : Hid (∀ t, t = (L[k]).text → t.length ≤ 700 → ∀ i, (h : i < L.length) → i < k + 1 → (L[i]).text.length ≤ 700) := by
          intro t ht h7 i hi hik
          by_cases e : i = k
          · subst e; rw [← ht]; exact h7
          · exact hall.out i hi (by omega)
        obtain ⟨t, ht⟩ : ∃ t, t = (L[k]).text := ⟨_, rfl⟩
        rw [← ht] at c2 hkt
        have HL' : Hid (t.length ≤ 700 → ∀ i, (h : i < L.length) → i < k + 1 → (L[i]).text.length ≤ 700) := HL.out t ht
        clear HL ht
        by_cases h7 : t.length ≤ 700
        · have h7' : (700 < (t.length : Int)) = False := by simp; omega
          go_wp2
          all_goals
            go_roundw
            case rel => exact ⟨k + 1, by go_num, by omega, by omega, HL'.out h7, trivial⟩
            case measure => simp [intOf]; omega
        · have h7' : 700 < (t.length : Int) := by omega
          go_wp2
          all_goals
            go_ret
            exact ⟨⟨_, rfl, fun h => by cases h⟩, ⟨rfl, rfl, rfl, Nat.le_refl _, fun _ _ => rfl⟩⟩
      · obtain rfl : k = 80 := by omega
        go_wp2
        all_goals
          go_ret
          refine ⟨⟨_, rfl, fun h => ?_⟩, ⟨rfl, rfl, rfl, Nat.le_refl _, fun _ _ => rfl⟩⟩
          simp at h
          omega
    · obtain rfl : k = L.length := by omega
      go_wp2
      all_goals
        go_ret
        refine ⟨⟨_, rfl, fun h => ?_⟩, ⟨rfl, rfl, rfl, Nat.le_refl _, fun _ _ => rfl⟩⟩
        exact HF.out (fun i hi _ => hall.out i hi hi) hk80
end Go.Proofs.Ytominjooffecnaa.WLk
