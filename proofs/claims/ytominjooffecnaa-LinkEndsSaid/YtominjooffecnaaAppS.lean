/- A law of no program: an append of new elements to a row of the call's own, as a step of a region that draws its order. -/
import Derived.Test.YtominjooffecnaaApp
import Derived.Deep.RegionLaw
namespace Go.Proofs.Ytominjooffecnaa
open Go Go.RowKit

theorem step_append_new {P : Program} {ops : Array Oper} {o : Oper} {a : Act} {w : World} {K : Act → World → Prop} {Q : Exit → Act → World → Prop} {E : Prop} (cs : Array Value) (hgd : o.guard = none) (s x : Operand) (t : TypeId)
    (ho : o.op = .call { callee := .builtin .append, args := #[s, x], argTypes := #[t, t] })
    (base : Nat) (e : TypeId) (i : TypeInfo) (z : Value) (size bytes : Nat) (ht : P.underlying t = some (.slice e)) (hi : P.info? e = some i) (hz : i.zero = some z)
    (hsize : i.size = size) (hby : i.bytes = bytes) (hzs : z.cells.size = size) (hsz : 0 < size)
    (v : Value) (n : Nat) (xs : List Value) (hown : w.ownsRow base e size v n xs) (hs : a.eval s = v)
    (m : Nat) (hx : a.eval x = .slice (some ⟨w.heap.size, 0, none⟩) m m) (hl : cs.size = m * size) (h1 : cs.toList.all (fun u => u.oneCell') = true)
    (h63 : n + m ≤ maxLen) (hbytes : (n + m) * bytes ≤ 140737488355328) (hbase : base ≤ w.heap.size)
    (h : ∀ v' w', w'.ownsRow base e size v' (n + m) (xs ++ cs.toList) → w.grownBy w' v.ownBlock → K (a.put o.dst v') w') :
    if Region.wanted o (yielded ops a.tmps) = true then Oper.wp P o a (w.alloc (.cells cs e)).drew K Q else E := by
  have hw : Region.wanted o (yielded ops a.tmps) = true := by simp [Region.wanted, hgd]
  rw [if_pos hw]
  have hown2 : (w.alloc (.cells cs e)).drew.ownsRow base e size v n xs := hown.alloc _
  refine wp_append_own (w.alloc (.cells cs e)).drew s x t ho base e i z size bytes ht hi hz hsize hby hzs hsz v n xs hs hown2 ⟨w.heap.size, 0, none⟩ m m cs.toList hx (by simpa using hl) ?_ (fun u hu => List.all_eq_true.1 h1 u hu) h63 hbytes (by simp; omega) ?_
  · intro j u hu
    have e1 : (⟨w.heap.size, 0, none⟩ : Addr).add j = ⟨w.heap.size, j, none⟩ := by unfold Addr.add; split <;> simp_all
    have hh : (w.alloc (.cells cs e)).drew.heap[w.heap.size]? = some (.cells cs e (0, 0)) := heap_alloc_new w _
    rw [e1, cell_of_row _ w.heap.size j cs e (0, 0) hh]
    simpa using hu
  · intro v' w' ho' hg _
    refine h v' w' ho' ⟨hg.os, hg.tape, hg.output, ?_, ?_⟩
    · have := hg.size
      simp at this
      omega
    · intro k hk hne
      rw [hg.block k (by simp; omega) hne]
      exact heap_alloc_old w _ k hk

end Go.Proofs.Ytominjooffecnaa
