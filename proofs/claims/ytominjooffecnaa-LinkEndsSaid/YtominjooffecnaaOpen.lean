/- How a slice of lines that came in is opened: it reads as a list of lines. -/
import Derived.Test.YtominjooffecnaaWPkA
import Derived.ProofKit
import Derived.Deep.Slices
import Derived.Deep.Fields
namespace Go.Proofs.Ytominjooffecnaa
open Go.RowKit Go.ChangeShapes Go.WideShapes Go.Deep Kn WPk

/-- a list, out of its elements -/
theorem list_of {α : Type} {P : Nat → α → Prop} : ∀ n : Nat, (∀ i, i < n → ∃ p, P i p) → ∃ L : List α, L.length = n ∧ ∀ i (h : i < L.length), P i L[i] := by
  intro n
  induction n with
  | zero => intro _; exact ⟨[], rfl, fun i h => absurd h (by simp)⟩
  | succ n ih =>
    intro h
    obtain ⟨L, hl, hL⟩ := ih (fun i hi => h i (by omega))
    obtain ⟨p, hp⟩ := h n (by omega)
    refine ⟨L ++ [p], by simp [hl], fun i hi => ?_⟩
    by_cases e : i < L.length
    · rw [List.getElem_append_left e]; exact hL i e
    · have : i = n := by simp [hl] at hi; omega
      subst this
      rw [List.getElem_append_right (by omega)]
      simp [hl, hp]

theorem two_of {α : Type} {l : List α} (h : l.length = 2) : ∃ a b, l = [a, b] := by
  match l, h with
  | [a, b], _ => exact ⟨a, b, rfl⟩

section
variable {H : Type} {enc : TypeId × Value → H} {w : World} {base : Nat} {spare : Nat → Bool} {held : Bool}

theorem cells34 : Try.prog.cellsOf 34 = 2 := by kernel_rfl
theorem cells3 : Try.prog.cellsOf 3 = 1 := by kernel_rfl
theorem cells9 : Try.prog.cellsOf 9 = 1 := by kernel_rfl

/-- a line's cells -/
theorem open_line {fuel : Nat} {cs : List Value} {x : DataW H × List MemPlace} (h : DataW.trod enc Try.prog w base spare held fuel 34 cs = some x) :
    ∃ (k : Int) (s : ByteArray), cs = [.int .i64 k, .string s] ∧ s.size ≤ maxLen := by
  obtain ⟨xs, n, _, _, hlen, hxl, hf⟩ := DataW.trod_struct Try.underlying34 h
  have h0 : DataW.trod enc Try.prog w base spare held n 3 ((cs.drop 0).take (Try.prog.cellsOf 3)) = xs[0]? := hf 0 _ rfl
  have h1 : DataW.trod enc Try.prog w base spare held n 9 ((cs.drop 1).take (Try.prog.cellsOf 9)) = xs[1]? := hf 1 _ rfl
  rw [cells3] at h0
  rw [cells9] at h1
  rw [cells34] at hlen
  obtain ⟨c0, c1, rfl⟩ := two_of hlen
  have hx0 : xs[0]? = some (xs[0]'(by rw [hxl]; decide)) := List.getElem?_eq_getElem _
  have hx1 : xs[1]? = some (xs[1]'(by rw [hxl]; decide)) := List.getElem?_eq_getElem _
  rw [hx0] at h0
  rw [hx1] at h1
  obtain ⟨k, hk, _, _⟩ := DataW.trod_int Try.underlying3 h0
  obtain ⟨s, hs, _, hm⟩ := DataW.trod_string Try.underlying9 h1
  simp at hk hs
  exact ⟨k, s, by rw [hk, hs], hm⟩

/-- a slice of lines -/
theorem open_lines {v : Value} {d : DataW H} {p : List MemPlace} {A : Option Addr} {len cap : Nat} (hv : v = .slice A len cap) (h : DataW.Trod enc Try.prog w base spare held 23 v d p) :
    ∃ L : List Pkt.Ln, L.length = len ∧ len ≤ cap ∧ cap ≤ maxLen ∧ Pk w A L ∧ ∀ i, (h : i < L.length) → (L[i]).load.length ≤ maxLen := by
  subst hv
  obtain ⟨fuel, hf⟩ := h
  rcases open_slice Try.underlying23 hf with ⟨hcs, _⟩ | ⟨a, len', cap', m, n, D, Pl, hcs, _, hl, hm, hmm, hx, hi⟩
  · simp [Value.cells] at hcs
    obtain ⟨rfl, rfl, rfl⟩ := hcs
    exact ⟨[], rfl, Nat.le_refl _, Nat.zero_le _, .inl rfl, fun i h => absurd h (by simp)⟩
  · simp [Value.cells] at hcs
    obtain ⟨rfl, rfl, rfl⟩ := hcs
    have hlm : len ≤ m := by rw [hmm]; split <;> omega
    obtain ⟨L, hLl, hL⟩ := list_of (P := fun i (q : Pkt.Ln) => w.cell? (a.add (i * 2)) = some (.int .i64 q.kind) ∧ w.cell? (a.add (i * 2 + 1)) = some (.string ⟨q.load.toArray⟩) ∧ q.load.length ≤ maxLen) len (fun i hi' => by
      obtain ⟨cs', hc, ht⟩ := hi i (by omega)
      rw [cells34] at hc
      obtain ⟨k, s, rfl, hs⟩ := open_line ht
      obtain ⟨_, _, hat⟩ := World.cells?_some hc
      have c0 := hat 0 (by omega)
      have c1 := hat 1 (by omega)
      rw [Go.Deep.add_add] at c0 c1
      refine ⟨⟨k, s.data.toList⟩, by simpa using c0, ?_, by simpa using hs⟩
      rw [Lib.mk_data]
      simpa using c1)
    refine ⟨L, hLl, hl, hm, ?_, fun i h => (hL i h).2.2⟩
    by_cases h0 : L = []
    · exact .inl h0
    · have hpos : 0 < L.length := List.length_pos_iff.2 h0
      have hc0 := (hL 0 hpos).1
      obtain ⟨b, off, spot⟩ := a
      have hspot : spot = none := by
        have := World.cell?_spot hc0
        simpa [Addr.add] using this
      subst hspot
      have hb : b < w.heap.size := by
        have := World.block_lt_of_cell? w _ hc0
        simpa [Addr.add] using this
      refine .inr ⟨b, off, rfl, hb, fun i hi => ?_⟩
      obtain ⟨x0, x1, _⟩ := hL i hi
      rw [add_plain] at x0 x1
      exact ⟨x0, by rw [Nat.add_assoc]; exact x1⟩
end
end Go.Proofs.Ytominjooffecnaa
