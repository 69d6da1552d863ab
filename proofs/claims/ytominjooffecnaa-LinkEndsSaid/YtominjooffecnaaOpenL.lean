/- How a slice of steps of the net that came in is opened. -/
import Derived.Test.YtominjooffecnaaOpen
import Derived.Test.YtominjooffecnaaWLkD
import Derived.OpenShut
namespace Go.Proofs.Ytominjooffecnaa
open Go.RowKit Go.ChangeShapes Go.WideShapes Go.Deep Kn WLk

theorem six_of {α : Type} {l : List α} (h : l.length = 6) : ∃ a b c d e f, l = [a, b, c, d, e, f] := by
  match l, h with
  | [a, b, c, d, e, f], _ => exact ⟨a, b, c, d, e, f, rfl⟩
theorem nat_of_u8 {n : Int} (h : (Lit.int .u8 n).wf = true) : ∃ k : Nat, n = k ∧ k < 256 := by
  have hb := bounds_u8 h
  exact ⟨n.toNat, by omega, by omega⟩

section
variable {H : Type} {enc : TypeId × Value → H} {w : World} {base : Nat} {spare : Nat → Bool} {held : Bool}

theorem cells96 : Try.prog.cellsOf 96 = 6 := by kernel_rfl
theorem cells5 : Try.prog.cellsOf 5 = 1 := by kernel_rfl

/-- a step's cells -/
theorem open_lstep {fuel : Nat} {cs : List Value} {x : DataW H × List MemPlace} (h : DataW.trod enc Try.prog w base spare held fuel 96 cs = some x) :
    ∃ s : Stp, cs = [.int .u8 s.what, .int .u8 s.to, .string ⟨s.text.toArray⟩, .int .u8 s.at_, .int .u8 s.byte, .int .u8 s.by_] ∧ StpOk s := by
  obtain ⟨xs, n, _, _, hlen, hxl, hf⟩ := DataW.trod_struct Try.underlying96 h
  have h0 : DataW.trod enc Try.prog w base spare held n 5 ((cs.drop 0).take (Try.prog.cellsOf 5)) = xs[0]? := hf 0 _ rfl
  have h1 : DataW.trod enc Try.prog w base spare held n 5 ((cs.drop 1).take (Try.prog.cellsOf 5)) = xs[1]? := hf 1 _ rfl
  have h2 : DataW.trod enc Try.prog w base spare held n 9 ((cs.drop 2).take (Try.prog.cellsOf 9)) = xs[2]? := hf 2 _ rfl
  have h3 : DataW.trod enc Try.prog w base spare held n 5 ((cs.drop 3).take (Try.prog.cellsOf 5)) = xs[3]? := hf 3 _ rfl
  have h4 : DataW.trod enc Try.prog w base spare held n 5 ((cs.drop 4).take (Try.prog.cellsOf 5)) = xs[4]? := hf 4 _ rfl
  have h5 : DataW.trod enc Try.prog w base spare held n 5 ((cs.drop 5).take (Try.prog.cellsOf 5)) = xs[5]? := hf 5 _ rfl
  rw [cells5] at h0 h1 h3 h4 h5
  rw [cells9] at h2
  rw [cells96] at hlen
  obtain ⟨c0, c1, c2, c3, c4, c5, rfl⟩ := six_of hlen
  have hx : ∀ i, i < 6 → ∃ y, xs[i]? = some y := fun i hi => ⟨xs[i]'(by rw [hxl]; exact hi), List.getElem?_eq_getElem _⟩
  obtain ⟨y0, e0⟩ := hx 0 (by decide)
  obtain ⟨y1, e1⟩ := hx 1 (by decide)
  obtain ⟨y2, e2⟩ := hx 2 (by decide)
  obtain ⟨y3, e3⟩ := hx 3 (by decide)
  obtain ⟨y4, e4⟩ := hx 4 (by decide)
  obtain ⟨y5, e5⟩ := hx 5 (by decide)
  rw [e0] at h0
  rw [e1] at h1
  rw [e2] at h2
  rw [e3] at h3
  rw [e4] at h4
  rw [e5] at h5
  obtain ⟨a0, ha0, _, hw0⟩ := DataW.trod_int Try.underlying5 h0
  obtain ⟨a1, ha1, _, hw1⟩ := DataW.trod_int Try.underlying5 h1
  obtain ⟨s, hs, _, hm⟩ := DataW.trod_string Try.underlying9 h2
  obtain ⟨a3, ha3, _, hw3⟩ := DataW.trod_int Try.underlying5 h3
  obtain ⟨a4, ha4, _, hw4⟩ := DataW.trod_int Try.underlying5 h4
  obtain ⟨a5, ha5, _, hw5⟩ := DataW.trod_int Try.underlying5 h5
  obtain ⟨k0, rfl, l0⟩ := nat_of_u8 hw0
  obtain ⟨k1, rfl, l1⟩ := nat_of_u8 hw1
  obtain ⟨k3, rfl, l3⟩ := nat_of_u8 hw3
  obtain ⟨k4, rfl, l4⟩ := nat_of_u8 hw4
  obtain ⟨k5, rfl, l5⟩ := nat_of_u8 hw5
  simp at ha0 ha1 hs ha3 ha4 ha5
  unfold maxLen at hm
  refine ⟨⟨k0, k1, s.data.toList, k3, k4, k5⟩, ?_, ⟨l0, l1, by simpa using hm, l3, l4, l5⟩⟩
  rw [ha0, ha1, hs, ha3, ha4, ha5, Lib.mk_data]

/-- a slice of steps -/
theorem open_lsteps {v : Value} {d : DataW H} {p : List MemPlace} {A : Option Addr} {len cap : Nat} (hv : v = .slice A len cap) (h : DataW.Trod enc Try.prog w base spare held 84 v d p) :
    ∃ L : List Stp, L.length = len ∧ len ≤ cap ∧ cap ≤ maxLen ∧ Sts w A L ∧ ∀ i, (h : i < L.length) → StpOk L[i] := by
  subst hv
  obtain ⟨fuel, hf⟩ := h
  rcases open_slice Try.underlying84 hf with ⟨hcs, _⟩ | ⟨a, len', cap', m, n, D, Pl, hcs, _, hl, hm, hmm, hx, hi⟩
  · simp [Value.cells] at hcs
    obtain ⟨rfl, rfl, rfl⟩ := hcs
    exact ⟨[], rfl, Nat.le_refl _, Nat.zero_le _, .inl rfl, fun i h => absurd h (by simp)⟩
  · simp [Value.cells] at hcs
    obtain ⟨rfl, rfl, rfl⟩ := hcs
    have hlm : len ≤ m := by rw [hmm]; split <;> omega
    obtain ⟨L, hLl, hL⟩ := list_of (P := fun i (q : Stp) => (∀ j u, [Value.int .u8 q.what, .int .u8 q.to, .string ⟨q.text.toArray⟩, .int .u8 q.at_, .int .u8 q.byte, .int .u8 q.by_][j]? = some u → w.cell? (a.add (i * 6 + j)) = some u) ∧ StpOk q) len (fun i hi' => by
      obtain ⟨cs', hc, ht⟩ := hi i (by omega)
      rw [cells96] at hc
      obtain ⟨s, rfl, hs⟩ := open_lstep ht
      obtain ⟨_, _, hat⟩ := World.cells?_some hc
      refine ⟨s, fun j u hu => ?_, hs⟩
      have hj : j < 6 := (List.getElem?_eq_some_iff.1 hu).1
      have := hat j hj
      rw [Go.Deep.add_add] at this
      rw [this, ← hu])
    refine ⟨L, hLl, hl, hm, ?_, fun i h => (hL i h).2⟩
    by_cases h0 : L = []
    · exact .inl h0
    · have hpos : 0 < L.length := List.length_pos_iff.2 h0
      have hc0 := (hL 0 hpos).1 0 _ rfl
      obtain ⟨b, off, spot⟩ := a
      have hspot : spot = none := by
        have := World.cell?_spot hc0
        simpa [Addr.add] using this
      subst hspot
      have hb : b < w.heap.size := by
        have := World.block_lt_of_cell? w _ hc0
        simpa [Addr.add] using this
      refine .inr ⟨b, off, rfl, hb, fun i hi => ?_⟩
      have hq := (hL i hi).1
      have e : ∀ j, (⟨b, off, none⟩ : Addr).add (i * 6 + j) = ⟨b, off + i * 6 + j, none⟩ := fun j => by rw [add_plain, Nat.add_assoc]
      refine ⟨?_, ?_, ?_, ?_, ?_, ?_⟩
      · have := hq 0 _ rfl; rw [e] at this; exact this
      · have := hq 1 _ rfl; rw [e] at this; exact this
      · have := hq 2 _ rfl; rw [e] at this; exact this
      · have := hq 3 _ rfl; rw [e] at this; exact this
      · have := hq 4 _ rfl; rw [e] at this; exact this
      · have := hq 5 _ rfl; rw [e] at this; exact this
end
end Go.Proofs.Ytominjooffecnaa
