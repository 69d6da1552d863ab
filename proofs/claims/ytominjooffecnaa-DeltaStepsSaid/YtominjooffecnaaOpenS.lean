/- How a slice of steps, and an array of three, that came in are opened. -/
import Derived.Test.YtominjooffecnaaOpen
import Derived.Test.YtominjooffecnaaWDlT
import Derived.Laws.IdiomArrays
namespace Go.Proofs.Ytominjooffecnaa
open Go.RowKit Go.ChangeShapes Go.WideShapes Go.Deep Kn WDl

theorem three_of {α : Type} {l : List α} (h : l.length = 3) : ∃ a b c, l = [a, b, c] := by
  match l, h with
  | [a, b, c], _ => exact ⟨a, b, c, rfl⟩

section
variable {H : Type} {enc : TypeId × Value → H} {w : World} {base : Nat} {spare : Nat → Bool} {held : Bool}

theorem cells81 : Try.prog.cellsOf 81 = 3 := by kernel_rfl

/-- a step's cells -/
theorem open_step {fuel : Nat} {cs : List Value} {x : DataW H × List MemPlace} (h : DataW.trod enc Try.prog w base spare held fuel 81 cs = some x) :
    ∃ (p k : Int) (s : ByteArray), cs = [.int .i64 p, .int .i64 k, .string s] ∧ s.size ≤ maxLen ∧ -9223372036854775808 ≤ k ∧ k ≤ 9223372036854775807 := by
  obtain ⟨xs, n, _, _, hlen, hxl, hf⟩ := DataW.trod_struct Try.underlying81 h
  have h0 : DataW.trod enc Try.prog w base spare held n 3 ((cs.drop 0).take (Try.prog.cellsOf 3)) = xs[0]? := hf 0 _ rfl
  have h1 : DataW.trod enc Try.prog w base spare held n 3 ((cs.drop 1).take (Try.prog.cellsOf 3)) = xs[1]? := hf 1 _ rfl
  have h2 : DataW.trod enc Try.prog w base spare held n 9 ((cs.drop 2).take (Try.prog.cellsOf 9)) = xs[2]? := hf 2 _ rfl
  rw [cells3] at h0 h1
  rw [cells9] at h2
  rw [cells81] at hlen
  obtain ⟨c0, c1, c2, rfl⟩ := three_of hlen
  have hx : ∀ i, i < 3 → ∃ y, xs[i]? = some y := fun i hi => ⟨xs[i]'(by rw [hxl]; exact hi), List.getElem?_eq_getElem _⟩
  obtain ⟨y0, e0⟩ := hx 0 (by decide)
  obtain ⟨y1, e1⟩ := hx 1 (by decide)
  obtain ⟨y2, e2⟩ := hx 2 (by decide)
  rw [e0] at h0
  rw [e1] at h1
  rw [e2] at h2
  obtain ⟨p, hp, _, _⟩ := DataW.trod_int Try.underlying3 h0
  obtain ⟨k, hk, _, hw⟩ := DataW.trod_int Try.underlying3 h1
  obtain ⟨s, hs, _, hm⟩ := DataW.trod_string Try.underlying9 h2
  simp at hp hk hs
  have hb := bounds_i64 hw
  exact ⟨p, k, s, by rw [hp, hk, hs], hm, hb.1, hb.2⟩

/-- a slice of steps -/
theorem open_steps {v : Value} {d : DataW H} {p : List MemPlace} {A : Option Addr} {len cap : Nat} (hv : v = .slice A len cap) (h : DataW.Trod enc Try.prog w base spare held 78 v d p) :
    ∃ L : List Stp, L.length = len ∧ len ≤ cap ∧ cap ≤ maxLen ∧ St w A L ∧ ∀ i, (h : i < L.length) → (L[i]).text.length ≤ maxLen ∧ -9223372036854775808 ≤ (L[i]).n ∧ (L[i]).n ≤ 9223372036854775807 := by
  subst hv
  obtain ⟨fuel, hf⟩ := h
  rcases open_slice Try.underlying78 hf with ⟨hcs, _⟩ | ⟨a, len', cap', m, n, D, Pl, hcs, _, hl, hm, hmm, hx, hi⟩
  · simp [Value.cells] at hcs
    obtain ⟨rfl, rfl, rfl⟩ := hcs
    exact ⟨[], rfl, Nat.le_refl _, Nat.zero_le _, .inl rfl, fun i h => absurd h (by simp)⟩
  · simp [Value.cells] at hcs
    obtain ⟨rfl, rfl, rfl⟩ := hcs
    have hlm : len ≤ m := by rw [hmm]; split <;> omega
    obtain ⟨L, hLl, hL⟩ := list_of (P := fun i (q : Stp) => w.cell? (a.add (i * 3)) = some (.int .i64 q.at_) ∧ w.cell? (a.add (i * 3 + 1)) = some (.int .i64 q.n) ∧ w.cell? (a.add (i * 3 + 2)) = some (.string ⟨q.text.toArray⟩) ∧ q.text.length ≤ maxLen ∧ -9223372036854775808 ≤ q.n ∧ q.n ≤ 9223372036854775807) len (fun i hi' => by
      obtain ⟨cs', hc, ht⟩ := hi i (by omega)
      rw [cells81] at hc
      obtain ⟨q, k, s, rfl, hs, hk1, hk2⟩ := open_step ht
      obtain ⟨_, _, hat⟩ := World.cells?_some hc
      have c0 := hat 0 (by omega)
      have c1 := hat 1 (by omega)
      have c2 := hat 2 (by omega)
      rw [Go.Deep.add_add] at c0 c1 c2
      refine ⟨⟨q, k, s.data.toList⟩, by simpa using c0, by simpa using c1, ?_, by simpa using hs, hk1, hk2⟩
      rw [Lib.mk_data]
      simpa using c2)
    refine ⟨L, hLl, hl, hm, ?_, fun i h => (hL i h).2.2.2⟩
    by_cases h0 : L = []
    · exact .inl h0
    · have hpos : 0 < L.length := List.length_pos_iff.2 h0
      have hc0 := (hL 0 hpos).1
      obtain ⟨b, off, spot⟩ := a
      have hspot : spot = none := by
        have := World.cell?_spot hc0
        simpa [Addr.add] using this
      subst hspot
      have hb : b < w.heap.size := by
        have := World.block_lt_of_cell? w _ hc0
        simpa [Addr.add] using this
      refine .inr ⟨b, off, rfl, hb, fun i hi => ?_⟩
      obtain ⟨x0, x1, x2, _⟩ := hL i hi
      rw [add_plain] at x0 x1 x2
      exact ⟨x0, by rw [Nat.add_assoc]; exact x1, by rw [Nat.add_assoc]; exact x2⟩

theorem okWide_arr {P : Program} {r : Reach} {b0 n : Nat} {t e : TypeId} {v : Value} (ht : P.underlying t = some (.array n e)) (h : Value.okWide P w r b0 t v) : ∃ cs, v = .agg cs ∧ cs.size = P.cellsOf t := by
  unfold Value.okWide at h
  rw [ht] at h
  obtain ⟨cs, hv, hs, _⟩ := h
  exact ⟨cs, hv, hs⟩

theorem cells79 : Try.prog.cellsOf 79 = 3 := by kernel_rfl

set_option maxRecDepth 100000 in
/-- an array of three -/
theorem open_three {r : Reach} {b0 : Nat} {v : Value} {d : DataW H} {p : List MemPlace} (hval : Value.okWide Try.prog w r b0 79 v) (h : DataW.Trod enc Try.prog w base spare held 79 v d p) :
    ∃ a b c : Int, v = .agg #[.int .i64 a, .int .i64 b, .int .i64 c] ∧ -9223372036854775808 ≤ c := by
  obtain ⟨cs, rfl, hsz⟩ := okWide_arr Try.underlying79 hval
  rw [cells79] at hsz
  obtain ⟨fuel, hf⟩ := h
  obtain ⟨c0, c1, c2, hcs⟩ := three_of (l := cs.toList) (by simpa using hsz)
  have e : (Value.agg cs).cells.toList = [c0, c1, c2] := hcs
  rw [e] at hf
  obtain ⟨y0, y1, y2, n, _, h0, h1, h2⟩ := trod_array3 Try.underlying79 cells3 hf
  obtain ⟨a, ha, _, _⟩ := DataW.trod_int Try.underlying3 h0
  obtain ⟨b, hb, _, _⟩ := DataW.trod_int Try.underlying3 h1
  obtain ⟨c, hc, _, hw⟩ := DataW.trod_int Try.underlying3 h2
  simp at ha hb hc
  refine ⟨a, b, c, ?_, (bounds_i64 hw).1⟩
  rw [ha, hb, hc] at hcs
  cases cs
  simp at hcs
  rw [hcs]
end
end Go.Proofs.Ytominjooffecnaa
