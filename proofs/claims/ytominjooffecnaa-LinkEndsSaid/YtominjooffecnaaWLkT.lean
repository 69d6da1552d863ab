/- What an end takes, and what it makes of a packet that comes (layer 24). -/
import Derived.Test.YtominjooffecnaaWLkR
namespace Go.Proofs.Ytominjooffecnaa.WLk
open Go.RowKit Kn

theorem grown_set {w w' : World} {b : Nat} (h : w.grownBy w' (some b)) (i : Nat) (v : Value) : w.grownBy (w'.setCell ⟨b, i, none⟩ v) (some b) := by
  refine ⟨by simpa [World.setCell] using h.os, by simpa [World.setCell] using h.tape, by simpa [World.setCell] using h.output, by simpa using h.size, fun k hk hne => ?_⟩
  rw [Below.heap_setCell _ _ _ _ (fun e => hne (by rw [e]))]
  exact h.block k hk hne
theorem grown_alloc {w w' : World} {r : Option Nat} (h : w.grownBy w' r) (o : Obj) : w.grownBy (w'.alloc o) r := by
  refine ⟨h.os, h.tape, h.output, by have := h.size; simp; omega, fun k hk hne => ?_⟩
  rw [heap_alloc_old w' o (by have := h.size; omega)]
  exact h.block k hk hne
theorem grown_drew {w w' : World} {r : Option Nat} (h : w.grownBy w' r) : w.grownBy w'.drew r := ⟨h.os, h.tape, h.output, h.size, h.block⟩
theorem grown_below {w w1 w2 : World} {r : Option Nat} (h : w.grownBy w1 r) (hb : Below w1.heap.size w1 w2) : w.grownBy w2 r :=
  ⟨hb.os.trans h.os, hb.tape.trans h.tape, hb.output.trans h.output, Nat.le_trans h.size hb.size, fun k hk hne => (hb.block k (by have := h.size; omega)).trans (h.block k hk hne)⟩
theorem below_grown {w w1 w2 : World} {r : Option Nat} (hb : Below w.heap.size w w1) (h : w1.grownBy w2 r) : w.grownBy w2 r :=
  ⟨h.os.trans hb.os, h.tape.trans hb.tape, h.output.trans hb.output, Nat.le_trans hb.size h.size, fun k hk hne => (h.block k (by have := hb.size; omega) hne).trans (hb.block k hk)⟩
theorem grown_one {w : World} (b : Nat) : w.grownBy w (some b) := ⟨rfl, rfl, rfl, Nat.le_refl _, fun _ _ _ => rfl⟩

theorem last_cell {W : World} {v : Value} {t : TypeId} {N : Nat} (h : W.heap.size = N) : (W.alloc (.cells #[v] t)).drew.cell? ⟨N, 0, none⟩ = some v := by
  subst h
  show (W.alloc (.cells #[v] t)).cell? ⟨W.heap.size, 0, none⟩ = some v
  rw [cell_of_row _ _ 0 _ t (0, 0) (heap_alloc_new W _)]
  rfl

/-- what is told: nothing, or a message in a slice of its own -/
def Told (w w' : World) (v : Value) (o : Option (List UInt8)) : Prop :=
  match o with
  | none => v = .slice none 0 0
  | some m => ∃ g, v = .slice (some ⟨g, 0, none⟩) 1 1 ∧ w.heap.size ≤ g ∧ w'.cell? ⟨g, 0, none⟩ = some (.string ⟨m.toArray⟩)

set_option maxRecDepth 100000 in
set_option maxHeartbeats 2000000 in
theorem take_any (c0 pv c2 : Value) (took : Nat) (hk : took < 1000000) (x t : List UInt8) (last : Bool) (hx : x.length ≤ 1000000) (ht : t.length ≤ 200) (eb : Nat) (w : World)
    (hrow : w.heap[eb]? = some (.cells #[c0, pv, c2, .int .u64 took, .string ⟨x.toArray⟩] 119 (0, 0))) :
    Calls Try.prog 75 #[.pointer (some ⟨eb, 0, none⟩), .agg #[.string ⟨t.toArray⟩, .bool last]] w fun e w' => ∃ v, e = .returned v ∧ Told w w' v (if last then some (x ++ t) else none) ∧
      w'.heap[eb]? = some (.cells #[c0, pv, c2, .int .u64 (took + 1 : Nat), .string ⟨(if last then [] else x ++ t).toArray⟩] 119 (0, 0)) ∧ w.grownBy w' (some eb) := by
  have hlt := lt_of_block hrow
  have c3 : w.cell? ⟨eb, 3, none⟩ = some (.int .u64 took) := by rw [cell_of_row _ _ _ _ _ _ hrow]; rfl
  have c4 : w.cell? ⟨eb, 4, none⟩ = some (.string ⟨x.toArray⟩) := by rw [cell_of_row _ _ _ _ _ _ hrow]; rfl
  have f3 : w.frozen? ⟨eb, 3, none⟩ = false := by simp [World.frozen?, hrow]
  have f4 : w.frozen? ⟨eb, 4, none⟩ = false := by simp [World.frozen?, hrow]
  have HR := Lib.hid hrow
  clear hrow
  have hne : w.heap.size ≠ eb := by omega
  have hne' : eb ≠ w.heap.size := by omega
  have hlim : (9223372036854775807 < x.length + t.length) = False := by simp; omega
  have hww : IntKind.u64.wrap ((took : Int) + 1) = (took : Int) + 1 := by rw [IntKind.wrap_u64]; omega
  have hcat : (⟨x.toArray⟩ : ByteArray) ++ ⟨t.toArray⟩ = ⟨(x ++ t).toArray⟩ := by rw [cat_mk]
  have HC := Lib.hid hcat
  clear hcat
  have HS : ∀ (W : World) (a : Addr) (u : Value), (W.setCell a u).heap.size = W.heap.size := fun W a u => by simp
  cases last
  · go_enter Try.func75, Try.ntmps75
    go_wp2
    go_region
    all_goals
      go_wp2
      go_ret
      rw [HC.out]
      refine ⟨_, rfl, rfl, ?_, grown_drew (grown_alloc (grown_set (grown_set (grown_one eb) 3 _) 4 _) _)⟩
      refine (heap_alloc_old _ _ (by rw [HS, HS]; exact hlt)).trans ?_
      have h1 := heap_setCell_same w eb 3 _ _ (.int .u64 ((took : Int) + 1)) HR.out
      exact heap_setCell_same _ eb 4 _ _ (.string ⟨(x ++ t).toArray⟩) h1
  · go_enter Try.func75, Try.ntmps75
    go_wp2
    go_region
    all_goals
      go_wp2
      go_ret
      rw [HC.out]
      refine ⟨_, rfl, ⟨w.heap.size + 1, rfl, by omega, last_cell (by simp)⟩, ?_, grown_drew (grown_alloc (grown_alloc (grown_set (grown_set (grown_set (grown_one eb) 3 _) 4 _) 4 _) _) _)⟩
      refine (heap_alloc_old _ _ (by simp; omega)).trans ?_
      refine (heap_alloc_old _ _ (by rw [HS, HS, HS]; exact hlt)).trans ?_
      have h1 := heap_setCell_same w eb 3 _ _ (.int .u64 ((took : Int) + 1)) HR.out
      have h2 := heap_setCell_same _ eb 4 _ _ (.string ⟨(x ++ t).toArray⟩) h1
      exact heap_setCell_same _ eb 4 _ _ (.string ⟨#[]⟩) h2
end Go.Proofs.Ytominjooffecnaa.WLk
