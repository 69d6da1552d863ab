/- Steps of the net as they lie in memory (layer 24). -/
import Derived.Test.YtominjooffecnaaLkA
namespace Go.Proofs.Ytominjooffecnaa.WLk
open Go.RowKit

/-- a step of the net -/
structure Stp where
  what : Nat
  to : Nat
  text : List UInt8
  at_ : Nat
  byte : Nat
  by_ : Nat

/-- its cells, from an offset on -/
structure StpAt (w : World) (b off : Nat) (s : Stp) : Prop where
  c0 : w.cell? ⟨b, off, none⟩ = some (.int .u8 s.what)
  c1 : w.cell? ⟨b, off + 1, none⟩ = some (.int .u8 s.to)
  c2 : w.cell? ⟨b, off + 2, none⟩ = some (.string ⟨s.text.toArray⟩)
  c3 : w.cell? ⟨b, off + 3, none⟩ = some (.int .u8 s.at_)
  c4 : w.cell? ⟨b, off + 4, none⟩ = some (.int .u8 s.byte)
  c5 : w.cell? ⟨b, off + 5, none⟩ = some (.int .u8 s.by_)

/-- sizes -/
structure StpOk (s : Stp) : Prop where
  what : s.what < 256
  to : s.to < 256
  text : s.text.length ≤ 9223372036854775807
  at_ : s.at_ < 256
  byte : s.byte < 256
  by_ : s.by_ < 256

/-- a slice of steps reads as L -/
def Sts (w : World) (A : Option Addr) (L : List Stp) : Prop :=
  L = [] ∨ ∃ b off, A = some ⟨b, off, none⟩ ∧ b < w.heap.size ∧ ∀ i (h : i < L.length), StpAt w b (off + i * 6) L[i]

theorem StpAt.block {w w' : World} {b off : Nat} {s : Stp} (h : StpAt w b off s) (hb : w'.heap[b]? = w.heap[b]?) : StpAt w' b off s := by
  have hc : ∀ j, w'.cell? ⟨b, j, none⟩ = w.cell? ⟨b, j, none⟩ := fun j => World.cell?_of_block (a := ⟨b, j, none⟩) hb
  exact ⟨by rw [hc]; exact h.c0, by rw [hc]; exact h.c1, by rw [hc]; exact h.c2, by rw [hc]; exact h.c3, by rw [hc]; exact h.c4, by rw [hc]; exact h.c5⟩
theorem Sts.keep {w w' : World} {A : Option Addr} {L : List Stp} (h : Sts w A L) (hs : w.heap.size ≤ w'.heap.size) (hb : ∀ k, k < w.heap.size → w'.heap[k]? = w.heap[k]?) : Sts w' A L := by
  rcases h with h | ⟨b, off, hA, hlt, hc⟩
  · exact .inl h
  · exact .inr ⟨b, off, hA, by omega, fun i hi => (hc i hi).block (hb b hlt)⟩
theorem Sts.below {w w' : World} {A : Option Addr} {L : List Stp} (h : Sts w A L) (hb : Below w.heap.size w w') : Sts w' A L := h.keep hb.size hb.block
end Go.Proofs.Ytominjooffecnaa.WLk
