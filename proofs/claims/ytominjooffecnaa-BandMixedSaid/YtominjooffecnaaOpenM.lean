/- How a struct Mix that came in is opened. -/
import Derived.Test.YtominjooffecnaaOpen
import Derived.Test.YtominjooffecnaaWBdM
namespace Go.Proofs.Ytominjooffecnaa
open Go.RowKit Go.ChangeShapes Go.WideShapes Go.Deep Kn WBd

theorem four_of {α : Type} {l : List α} (h : l.length = 4) : ∃ a b c d, l = [a, b, c, d] := by
  match l, h with
  | [a, b, c, d], _ => exact ⟨a, b, c, d, rfl⟩

section
variable {H : Type} {enc : TypeId × Value → H} {w : World} {base : Nat} {spare : Nat → Bool} {held : Bool}

theorem cells42 : Try.prog.cellsOf 42 = 4 := by kernel_rfl
theorem cells4 : Try.prog.cellsOf 4 = 1 := by kernel_rfl
theorem cells40 : Try.prog.cellsOf 40 = 1 := by kernel_rfl

/-- a slice of truths -/
theorem open_bools {fuel : Nat} {cs : List Value} {x : DataW H × List MemPlace} (h : DataW.trod enc Try.prog w base spare held fuel 40 cs = some x) :
    ∃ (A : Option Addr) (T : List Bool) (cap : Nat), cs = [.slice A T.length cap] ∧ T.length ≤ cap ∧ cap ≤ maxLen ∧ Bs w A T := by
  rcases open_slice1 Try.underlying40 cells4 h with ⟨rfl, _⟩ | ⟨a, len, cap, m, n, V, D, Pl, rfl, _, hl, hm, hmm, _, hx⟩
  · exact ⟨none, [], 0, rfl, Nat.le_refl _, Nat.zero_le _, .inl rfl⟩
  · have hlm : len ≤ m := by rw [hmm]; split <;> omega
    obtain ⟨T, hTl, hT⟩ := list_of (P := fun i (q : Bool) => w.cell? (a.add i) = some (.bool q)) len (fun i hi => by
      obtain ⟨hc, ht⟩ := hx i (by omega)
      obtain ⟨b, hb, _⟩ := DataW.trod_bool Try.underlying4 ht
      simp at hb
      exact ⟨b, by rw [hc, hb]⟩)
    refine ⟨some a, T, cap, by rw [hTl], by omega, hm, ?_⟩
    by_cases h0 : T = []
    · exact .inl h0
    · have hpos : 0 < T.length := List.length_pos_iff.2 h0
      have hc0 := hT 0 hpos
      obtain ⟨b, off, spot⟩ := a
      have hspot : spot = none := by
        have := World.cell?_spot hc0
        simpa [Addr.add] using this
      subst hspot
      have hb : b < w.heap.size := by
        have := World.block_lt_of_cell? w _ hc0
        simpa [Addr.add] using this
      refine .inr ⟨b, off, rfl, hb, fun i hi => ?_⟩
      have := hT i hi
      rw [add_plain] at this
      exact this

/-- a struct Mix -/
theorem open_mix {cs : Array Value} {d : DataW H} {p : List MemPlace} (h : DataW.Trod enc Try.prog w base spare held 42 (.agg cs) d p) :
    ∃ (a b : ByteArray) (n : Int) (A : Option Addr) (cap : Nat) (T : List Bool), cs = #[.string a, .string b, .int .i64 n, .slice A T.length cap] ∧
      a.size ≤ maxLen ∧ b.size ≤ maxLen ∧ (Lit.int .i64 n).wf = true ∧ T.length ≤ cap ∧ cap ≤ maxLen ∧ Bs w A T := by
  obtain ⟨fuel, hf⟩ := h
  obtain ⟨xs, n, _, _, hlen, hxl, hff⟩ := DataW.trod_struct Try.underlying42 hf
  have h0 : DataW.trod enc Try.prog w base spare held n 9 (((Value.agg cs).cells.toList.drop 0).take (Try.prog.cellsOf 9)) = xs[0]? := hff 0 _ rfl
  have h1 : DataW.trod enc Try.prog w base spare held n 9 (((Value.agg cs).cells.toList.drop 1).take (Try.prog.cellsOf 9)) = xs[1]? := hff 1 _ rfl
  have h2 : DataW.trod enc Try.prog w base spare held n 3 (((Value.agg cs).cells.toList.drop 2).take (Try.prog.cellsOf 3)) = xs[2]? := hff 2 _ rfl
  have h3 : DataW.trod enc Try.prog w base spare held n 40 (((Value.agg cs).cells.toList.drop 3).take (Try.prog.cellsOf 40)) = xs[3]? := hff 3 _ rfl
  rw [cells9] at h0 h1
  rw [cells3] at h2
  rw [cells40] at h3
  rw [cells42] at hlen
  obtain ⟨c0, c1, c2, c3, hcs⟩ := four_of hlen
  rw [hcs] at h0 h1 h2 h3
  have hx : ∀ i, i < 4 → ∃ y, xs[i]? = some y := fun i hi => ⟨xs[i]'(by rw [hxl]; exact hi), List.getElem?_eq_getElem _⟩
  obtain ⟨y0, e0⟩ := hx 0 (by decide)
  obtain ⟨y1, e1⟩ := hx 1 (by decide)
  obtain ⟨y2, e2⟩ := hx 2 (by decide)
  obtain ⟨y3, e3⟩ := hx 3 (by decide)
  rw [e0] at h0
  rw [e1] at h1
  rw [e2] at h2
  rw [e3] at h3
  obtain ⟨a, ha, _, hma⟩ := DataW.trod_string Try.underlying9 h0
  obtain ⟨b, hb, _, hmb⟩ := DataW.trod_string Try.underlying9 h1
  obtain ⟨k, hk, _, hwk⟩ := DataW.trod_int Try.underlying3 h2
  obtain ⟨A, T, cap, hT, hTc, hcm, hbs⟩ := open_bools h3
  simp at ha hb hk hT
  refine ⟨a, b, k, A, cap, T, ?_, hma, hmb, ?_, hTc, hcm, hbs⟩
  · have : cs.toList = [c0, c1, c2, c3] := hcs
    rw [ha, hb, hk, hT] at this
    cases cs
    simp at this
    rw [this]
  · exact hwk
end

theorem mixed (a b : ByteArray) (n : Int) (A : Option Addr) (cap : Nat) (T : List Bool) (w : World) (ha : a.size ≤ maxLen) (hb : b.size ≤ maxLen) (_hn : (Lit.int .i64 n).wf = true) (hT : T.length ≤ cap) (hcm : cap ≤ maxLen) (hbs : Bs w A T) :
    Calls Try.prog 5 #[.agg #[.string a, .string b, .int .i64 n, .slice A T.length cap]] w fun e w' => e = .returned (.bool true) ∧ Below w.heap.size w w' := by
  by_cases h : 1500 < a.size ∨ 1500 < b.size ∨ 200 < T.length
  · exact mixed_big a b n A cap T w ha hb hT hcm h
  · by_cases h2 : n < 1 ∨ 1000 ≤ n
    · exact mixed_bad a b n A cap T w (by omega) (by omega) (by omega) h2
    · obtain ⟨m, rfl⟩ := Int.eq_ofNat_of_zero_le (show 0 ≤ n by omega)
      exact mixed_good a b m A cap T w (by omega) (by omega) (by omega) hT hcm hbs (by omega) (by omega)
end Go.Proofs.Ytominjooffecnaa
