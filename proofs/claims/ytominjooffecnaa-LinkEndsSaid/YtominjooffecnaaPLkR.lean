/- Plain words on the link of layer 24: rounds in which packets come through both ways. No program in sight. -/
import Derived.Test.YtominjooffecnaaPLk
namespace Kn.Lk

/-- k ticks, the other one gets it -/
def half (k : Nat) (st : Nat → E) : Nat → E := fun j => if j = 1 - k then got (st (1 - k)) (tick (st k)) else st j
def rounds (st : Nat → E) : Nat → Nat → E
  | 0 => st
  | m + 1 => half (m % 2) (rounds st m)

theorem got_tick {A B : E} (h : Inv A B) : (got B (tick A)).done = A.took ∧ (got B (tick A)).took = min A.all.length (A.done + 1) := by
  have := h.a1
  have := h.a2
  have := h.a3
  have := h.b1
  have := h.b2
  have := h.b3
  rw [tick]
  split
  · simp only [got]
    constructor
    · split <;> omega
    · split <;> omega
  · simp only [got]
    constructor
    · split <;> omega
    · split <;> omega

theorem half_zero (st : Nat → E) : half 0 st 0 = st 0 ∧ half 0 st 1 = got (st 1) (tick (st 0)) := ⟨rfl, rfl⟩
theorem half_one (st : Nat → E) : half 1 st 1 = st 1 ∧ half 1 st 0 = got (st 0) (tick (st 1)) := ⟨rfl, rfl⟩
theorem half_inv {st : Nat → E} (h : Inv (st 0) (st 1)) {k : Nat} (hk : k < 2) : Inv (half k st 0) (half k st 1) := by
  match k, hk with
  | 0, _ => rw [(half_zero st).1, (half_zero st).2]; exact (inv_got h.symm (tick_good _ _)).symm
  | 1, _ => rw [(half_one st).1, (half_one st).2]; exact inv_got h (tick_good _ _)
theorem half_sent (st : Nat → E) (k j : Nat) : (half k st j).sent = (st j).sent := by
  rw [half]
  split
  · rename_i h; rw [h]; rfl
  · rfl
theorem rounds_sent (st : Nat → E) (m j : Nat) : (rounds st m j).sent = (st j).sent := by
  induction m with
  | zero => rfl
  | succ m ih => rw [rounds, half_sent, ih]
theorem rounds_all (st : Nat → E) (m j : Nat) : (rounds st m j).all = (st j).all := by rw [E.all, E.all, rounds_sent]
theorem rounds_inv {st : Nat → E} (h : Inv (st 0) (st 1)) (m : Nat) : Inv (rounds st m 0) (rounds st m 1) := by
  induction m with
  | zero => exact h
  | succ m ih => exact half_inv ih (by omega)

theorem rounds_far {st : Nat → E} (h : Inv (st 0) (st 1)) (r : Nat) :
    min (st 0).all.length r ≤ (rounds st (2 * r) 0).done ∧ min (st 1).all.length r ≤ (rounds st (2 * r) 0).took ∧ min ((st 1).all.length + 1) r ≤ (rounds st (2 * r) 1).done + 1 := by
  induction r with
  | zero => refine ⟨?_, ?_, ?_⟩ <;> omega
  | succ r ih =>
    obtain ⟨h1, h2, h3⟩ := ih
    have hi := rounds_inv h (2 * r)
    have hi2 := half_inv hi (k := 0) (by decide)
    have e1 : rounds st (2 * (r + 1)) = half 1 (half 0 (rounds st (2 * r))) := by
      rw [show 2 * (r + 1) = 2 * r + 1 + 1 by omega, rounds, rounds, show (2 * r + 1) % 2 = 1 by omega, show (2 * r) % 2 = 0 by omega]
    rw [e1]
    have a0 := rounds_all st (2 * r) 0
    have a1 := rounds_all st (2 * r) 1
    generalize rounds st (2 * r) = s at *
    obtain ⟨g1, g2⟩ := got_tick hi
    obtain ⟨g3, g4⟩ := got_tick hi2.symm
    rw [(half_one _).1, (half_one _).2]
    rw [(half_zero s).1, (half_zero s).2] at g3 g4
    rw [(half_zero s).1, (half_zero s).2, g3, g4, g1, g2, got_all, a0, a1]
    refine ⟨?_, ?_, ?_⟩ <;> omega

/-- behind enough rounds all is told, and confirmed -/
theorem rounds_done {st : Nat → E} (h : Inv (st 0) (st 1)) (r : Nat) (hr : (st 0).all.length + (st 1).all.length + 1 ≤ r) :
    (∀ k, k < 2 → (rounds st (2 * r) k).done = (st k).all.length) ∧ ∀ k, k < 2 → told (rounds st (2 * r) k) (rounds st (2 * r) (1 - k)) = (st (1 - k)).sent := by
  obtain ⟨h1, h2, h3⟩ := rounds_far h r
  have hi := rounds_inv h (2 * r)
  have a0 := rounds_all st (2 * r) 0
  have a1 := rounds_all st (2 * r) 1
  have b1 := hi.a1
  have b3 := hi.a3
  have c1 := hi.b1
  have c3 := hi.b3
  rw [a0] at b3
  rw [a1] at c3
  refine ⟨fun k hk => ?_, fun k hk => ?_⟩
  · match k, hk with
    | 0, _ => omega
    | 1, _ => omega
  · rw [← rounds_sent st (2 * r) (1 - k)]
    match k, hk with
    | 0, _ => exact told_whole (by rw [a1]; omega)
    | 1, _ => exact told_whole (by show _ = (rounds st (2 * r) 0).all.length; rw [a0]; omega)
end Kn.Lk
