/- What the map of layer 6's deltas holds. -/
import Derived.Test.YtominjooffecnaaWDbK
import Derived.Maps.OwnSet
namespace Go.Proofs.Ytominjooffecnaa.WDl
open Go.RowKit Go.Maps Kn WVi

theorem law48 : Keyed Try.prog 48 := int_keyed Try.underlying48
theorem zero3 (w : World) : (zeroValue 3).run Try.prog w = .ok (.int .i64 0) w := by kernel_rfl

/-- the map behind k rounds -/
def Mp (D : DataW Unit) (base : List UInt8) (k : Nat) : Prop :=
  IsMap D ∧ (∀ x : Int, Maps.has D (.int .u32 x) = true → ∃ j : Nat, j < k ∧ j + 4 ≤ base.length ∧ x = (Dl.keyN (base.drop j) : Int) ∧ ∀ z, D.atKey (.int .u32 x) z = .lit (.int .i64 j)) ∧
    (0 < k → Maps.has D (.int .u32 (Dl.keyN base : Int)) = true ∧ ∀ z, D.atKey (.int .u32 (Dl.keyN base : Int)) z = .lit (.int .i64 0))

theorem mp_nil (base : List UInt8) : Mp (.map []) base 0 := ⟨⟨[], rfl⟩, (fun x h => by simp [Maps.has] at h), fun h => absurd h (by omega)⟩

theorem mp_old {D : DataW Unit} {base : List UInt8} {k : Nat} (h : Mp D base k) (hh : Maps.has D (.int .u32 (Dl.keyN (base.drop k) : Int)) = true) : Mp D base (k + 1) := by
  refine ⟨h.1, fun x hx => ?_, fun _ => ?_⟩
  · obtain ⟨j, hj, h2⟩ := h.2.1 x hx
    exact ⟨j, by omega, h2⟩
  · by_cases hk : 0 < k
    · exact h.2.2 hk
    · obtain rfl : k = 0 := by omega
      obtain ⟨j, hj, _⟩ := h.2.1 _ hh
      omega
theorem mp_new {D : DataW Unit} {base : List UInt8} {k : Nat} (h : Mp D base k) (hk : k + 4 ≤ base.length) (hh : Maps.has D (.int .u32 (Dl.keyN (base.drop k) : Int)) = false) :
    Mp (D.put (.int .u32 (Dl.keyN (base.drop k) : Int)) (.lit (.int .i64 k))) base (k + 1) := by
  have hkl : WideAt.IsKeyLit (.int .u32 (Dl.keyN (base.drop k) : Int)) := trivial
  refine ⟨h.1.put _ _, fun x hx => ?_, fun _ => ?_⟩
  · by_cases he : x = (Dl.keyN (base.drop k) : Int)
    · subst he
      exact ⟨k, by omega, hk, rfl, fun z => atKey_put_same h.1 hkl _ z⟩
    · have hne : (Lit.int .u32 x) ≠ (Lit.int .u32 (Dl.keyN (base.drop k) : Int)) := by
        intro e
        injection e with _ e
        exact he e
      rw [has_put_other hne] at hx
      obtain ⟨j, hj, h4, hxx, hz⟩ := h.2.1 x hx
      exact ⟨j, by omega, h4, hxx, fun z => by rw [atKey_put_other hne]; exact hz z⟩
  · by_cases hk0 : 0 < k
    · obtain ⟨h1, h2⟩ := h.2.2 hk0
      have hne : (Lit.int .u32 (Dl.keyN base : Int)) ≠ (Lit.int .u32 (Dl.keyN (base.drop k) : Int)) := by
        intro e
        rw [e, hh] at h1
        cases h1
      exact ⟨by rw [has_put_other hne]; exact h1, fun z => by rw [atKey_put_other hne]; exact h2 z⟩
    · obtain rfl : k = 0 := by omega
      rw [List.drop_zero]
      have hkl0 : WideAt.IsKeyLit (.int .u32 (Dl.keyN base : Int)) := trivial
      exact ⟨has_put_same h.1 hkl0 _, fun z => atKey_put_same h.1 hkl0 _ z⟩
/-- what a look-up finds -/
theorem mp_at {D : DataW Unit} {base : List UInt8} {k : Nat} {x c : Int} (h : Mp D base k) (hh : Maps.has D (.int .u32 x) = true) (hat : D.atKey (.int .u32 x) (.lit (.int .i64 0)) = .lit (.int .i64 c)) :
    ∃ j : Nat, c = j ∧ j + 4 ≤ base.length ∧ x = (Dl.keyN (base.drop j) : Int) := by
  obtain ⟨j, _, h4, hx, hz⟩ := h.2.1 x hh
  rw [hz] at hat
  injection hat with e
  injection e with _ e
  exact ⟨j, e.symm, h4, hx⟩
theorem mp_at0 {D : DataW Unit} {base : List UInt8} {k : Nat} {c : Int} (h : Mp D base k) (hk : 0 < k) (hat : D.atKey (.int .u32 (Dl.keyN base : Int)) (.lit (.int .i64 0)) = .lit (.int .i64 c)) : c = 0 := by
  rw [(h.2.2 hk).2] at hat
  injection hat with e
  injection e with _ e
  exact e.symm
end Go.Proofs.Ytominjooffecnaa.WDl
