/- The walk of the law PktBack. -/
import Derived.Test.YtominjooffecnaaWPkC
import Derived.Test.YtominjooffecnaaWPkL
namespace Go.Proofs.Ytominjooffecnaa.WPk
open Go.RowKit Kn

theorem bytes_ge (p : Pkt.Ln) : 4 ≤ (Pkt.bytes p).length := by
  unfold Pkt.bytes
  split
  · simp [Pkt.figures_length]
  · split <;> simp [Pkt.figures_length]

theorem flat_ge (l : List Pkt.Ln) : 4 * l.length ≤ (l.flatMap Pkt.bytes).length := by
  induction l with
  | nil => simp
  | cons p l ih =>
    have := bytes_ge p
    rw [List.flatMap_cons, List.length_append, List.length_cons]
    omega

theorem flat_le (l : List Pkt.Ln) (h : l.all Pkt.fine = true) : (l.flatMap Pkt.bytes).length ≤ 1004 * l.length := by
  induction l with
  | nil => simp
  | cons p l ih =>
    simp only [List.all_cons, Bool.and_eq_true] at h
    have := Pkt.bytes_le h.1
    have := ih h.2
    rw [List.flatMap_cons, List.length_append, List.length_cons]
    omega

theorem puts_some {l : List Pkt.Ln} {s : List UInt8} (h : Pkt.puts l = some s) : l.all Pkt.fine = true ∧ s = l.flatMap Pkt.bytes := by
  unfold Pkt.puts at h
  split at h
  · rename_i ha
    injection h with h
    exact ⟨ha, h.symm⟩
  · cases h

theorem fine_load {p : Pkt.Ln} (h : Pkt.fine p = true) : p.load.length ≤ 1000 := by
  simp only [Pkt.fine, Bool.or_eq_true, Bool.and_eq_true, decide_eq_true_eq, List.isEmpty_iff] at h
  rcases h with ⟨_, h⟩ | ⟨_, h⟩
  · exact h
  · rw [h]; simp

theorem all_fine {l : List Pkt.Ln} (h : l.all Pkt.fine = true) : ∀ i, (hi : i < l.length) → (l[i]).load.length ≤ 1000 := fun _ hi => fine_load (List.all_eq_true.1 h _ (List.getElem_mem hi))

/-- what All gives, told by cases -/
def AllTold (s : List UInt8) (l : List Pkt.Ln) (n : Int) : Prop := (n = 2 ∧ l = [] ∧ Pkt.all s = none) ∨ (n = 0 ∧ Pkt.all s = some l ∧ putsN l = (s, 0))

theorem all_told (s : ByteArray) (w : World) (hs : s.size ≤ 100000) :
    Calls Try.prog 47 #[.string s] w fun e w' => ∃ A c l n, e = .returned (.tuple #[.slice A l.length c, .int .i64 n]) ∧ l.length ≤ c ∧ c ≤ 9223372036854775807 ∧ Pk w' A l ∧ 4 * l.length ≤ s.size ∧ (∀ i, (hi : i < l.length) → (l[i]).load.length ≤ 1000) ∧ AllTold s.data.toList l n ∧ Below w.heap.size w w' := by
  refine (all_any s w hs).mono ?_
  rintro e w' ⟨v, rfl, hown, hb⟩
  obtain ⟨A, c, rfl, hc1, hc2⟩ := own_slice hown
  have hp := (pk_own hown).2
  unfold maxLen at hc2
  have hsl : s.data.toList.length = s.size := by simp
  refine ⟨A, c, (allN s.data.toList).1, _, rfl, hc1, hc2, hp, ?_, ?_, ?_, hb⟩
  · unfold allN
    cases h : Pkt.all s.data.toList with
    | none => simp
    | some l =>
      have h1 := (Pkt.all_iff _ l).1 h
      obtain ⟨h2, h3⟩ := puts_some h1
      have h4 := flat_ge l
      rw [← h3, hsl] at h4
      exact h4
  · unfold allN
    cases h : Pkt.all s.data.toList with
    | none => intro i hi; exact absurd hi (by simp)
    | some l =>
      have h1 := (Pkt.all_iff _ l).1 h
      exact all_fine (puts_some h1).1
  · unfold allN AllTold
    cases h : Pkt.all s.data.toList with
    | none => exact .inl ⟨rfl, rfl, rfl⟩
    | some l => exact .inr ⟨rfl, rfl, by rw [putsN, (Pkt.all_iff _ l).1 h]⟩

set_option maxRecDepth 100000 in
set_option maxHeartbeats 4000000 in
theorem back (A : Option Addr) (cap : Nat) (L : List Pkt.Ln) (s : ByteArray) (_hs : s.size ≤ 140737488351232) (w : World) (hcap : L.length ≤ cap) (hcm : cap ≤ 9223372036854775807) (hp : Pk w A L) (hload : ∀ i, (h : i < L.length) → (L[i]).load.length ≤ 9223372036854775807) :
    Calls Try.prog 12 #[.slice A L.length cap, .string s] w fun e w' => e = .returned (.bool true) ∧ Below w.heap.size w w' := by
  go_enter Try.func12, Try.ntmps12
  go_wp2_with fail
  refine (few_any A cap L _ hcap hcm hp hload).mono ?_
  rintro e w1 ⟨rfl, rfl⟩
  clear hload
  cases hf : fewB L
  · clear hf
    go_wp2_with fail
    refine (knows_any _).mono ?_
    rintro e w2 ⟨rfl, hb2⟩
    go_wp2
    go_ret
    exact ⟨rfl, hb2⟩
  · obtain ⟨f1, f2⟩ := fewB_true hf
    have HF := Lib.hid f2
    clear hf f2
    by_cases hss : s.size ≤ 2500
    · go_wp2_with fail
      refine (put_any A cap L _ (by omega) hcap hcm hp (fun i h => by have := HF.out i h; omega)).mono ?_
      rintro e w2 ⟨rfl, hb2⟩
      have hp2 := hp.below hb2
      have HP : Hid ((putsN L = ([], 1)) ∨ ∃ t, putsN L = (t, 0) ∧ t.length ≤ 30120 ∧ Pkt.all t = some L) := by
        unfold putsN
        cases h : Pkt.puts L with
        | none => exact .inl rfl
        | some t =>
          obtain ⟨h2, h3⟩ := puts_some h
          refine .inr ⟨t, rfl, ?_, (Pkt.all_iff t L).2 h⟩
          rw [h3]
          have := flat_le L h2
          omega
      rcases HP.out with c1 | ⟨t, c1, ht, c2⟩
      · rw [c1]
        clear c1
        go_wp2_with fail
        refine (all_told s _ (by omega)).mono ?_
        rintro e w3 ⟨A3, c3, l, n, rfl, hc1, hc2, hp3, hl4, hld, hT, hb3⟩
        have HD := Lib.hid hld
        have HT := Lib.hid hT
        clear hld hT
        rcases HT.out with ⟨rfl, -, -⟩ | ⟨rfl, -, d2⟩
        all_goals
          go_wp2_with fail
          refine (put_any A3 c3 l _ (by omega) hc1 hc2 hp3 (fun i h => by have := HD.out i h; omega)).mono ?_
          rintro e w4 ⟨rfl, hb4⟩
          try rw [d2]
          try clear d2
          go_wp2_with fail
          refine (knows_any _).mono ?_
          rintro e w5 ⟨rfl, hb5⟩
          go_wp2
          go_ret
          exact ⟨rfl, bnext (bnext (bnext hb2 hb3) hb4) hb5⟩
      · rw [c1]
        have HC2 := Lib.hid c2
        clear c1 c2
        go_wp2_with fail
        refine (all_told ⟨t.toArray⟩ _ (by rw [size_mk]; omega)).mono ?_
        rintro e w3 ⟨A3, c3, l, n, rfl, hc1, hc2, hp3, -, -, hT, hb3⟩
        rcases hT with ⟨-, -, h⟩ | ⟨rfl, h, -⟩
        · rw [show (⟨t.toArray⟩ : ByteArray).data.toList = t from rfl, HC2.out] at h
          cases h
        · rw [show (⟨t.toArray⟩ : ByteArray).data.toList = t from rfl, HC2.out] at h
          injection h with h
          subst h
          have hp4 := hp2.below hb3
          have hB3 := bnext hb2 hb3
          clear hb2 hb3
          go_wp2_with fail
          refine (as_any A cap L _ (by omega) hcap hcm hp4).mono ?_
          rintro e w5 ⟨v5, rfl, hown5, hb5⟩
          obtain ⟨A5, c5, rfl, hc51, hc52⟩ := own_slice hown5
          have hp5 := (pk_own hown5).2
          have hp35 := hp3.below hb5
          unfold maxLen at hc52
          have hB5 := bnext hB3 hb5
          clear hown5 hb5 hB3
          go_wp2_with fail
          refine (as_any A3 c3 L _ (by omega) hc1 hc2 hp35).mono ?_
          rintro e w6 ⟨v6, rfl, hown6, hb6⟩
          obtain ⟨A6, c6, rfl, hc61, hc62⟩ := own_slice hown6
          have hp6 := (pk_own hown6).2
          have hp56 := hp5.below hb6
          unfold maxLen at hc62
          have hB6 := bnext hB5 hb6
          clear hown6 hb6 hB5
          go_wp2_with fail
          refine (same_any A5 A6 c5 c6 L _ hc51 hc52 hp56 hp6).mono ?_
          rintro e w7 ⟨rfl, hb7⟩
          have hB7 := bnext hB6 hb7
          clear hB6 hb7 hp hp2 hp3 hp4 hp5 hp35 hp56 hp6
          go_wp2_with fail
          refine (all_told s _ (by omega)).mono ?_
          rintro e w8 ⟨A8, c8, l, n, rfl, hc81, hc82, hp8, hl4, hld, hT, hb8⟩
          have HD := Lib.hid hld
          have HT := Lib.hid hT
          clear hld hT
          rcases HT.out with ⟨rfl, -, -⟩ | ⟨rfl, -, d2⟩
          all_goals
            go_wp2_with fail
            refine (put_any A8 c8 l _ (by omega) hc81 hc82 hp8 (fun i h => by have := HD.out i h; omega)).mono ?_
            rintro e w9 ⟨rfl, hb9⟩
            try rw [d2]
            try clear d2
            go_wp2_with fail
            refine (knows_any _).mono ?_
            rintro e w10 ⟨rfl, hb10⟩
            go_wp2
            go_ret
            exact ⟨rfl, bnext (bnext (bnext hB7 hb8) hb9) hb10⟩
    · have h2 : 2500 < s.size := by omega
      clear hss
      go_wp2_with fail
      refine (knows_any _).mono ?_
      rintro e w2 ⟨rfl, hb2⟩
      go_wp2
      go_ret
      exact ⟨rfl, hb2⟩
end Go.Proofs.Ytominjooffecnaa.WPk
