import Derived.Test.YtominjooffecnaaWPkT
import Derived.Outline
/-! The walk of the law PktGets. -/
namespace Go.Proofs.Ytominjooffecnaa.WPk
open Go.RowKit Kn

theorem ext_drop (s : ByteArray) (q : Nat) : (s.extract q s.size).toList = s.data.toList.drop q := by
  rw [Lib.extract_toList]
  exact List.take_of_length_le (by simp)

theorem get_both (s : List UInt8) : (getPN s = (⟨0, []⟩, [], 2) ∧ getPR s = (⟨0, []⟩, 0)) ∨ ∃ p q, 1 ≤ q ∧ q ≤ s.length ∧ getPN s = (p, s.drop q, 0) ∧ getPR s = (p, q) := by
  rcases getPR_cases s with ⟨g1, g2⟩ | ⟨p, q, g1, h1, h2, g2⟩
  · exact .inl ⟨by rw [getPN, g1], g2⟩
  · exact .inr ⟨p, q, h1, h2, by rw [getPN, g1], g2⟩

/-- a new variable's cells stay behind a call -/
theorem kept2 {w1 w2 : World} (a b : Value) (t : TypeId) (hb : Below (w1.heap.size + 1) (w1.alloc (.cells #[a, b] t)) w2) : w2.cell? ⟨w1.heap.size, 0, none⟩ = some a ∧ w2.cell? ⟨w1.heap.size, 1, none⟩ = some b ∧ w1.heap.size < w2.heap.size := by
  have hsz := hb.size
  simp at hsz
  have h0 : (w1.alloc (.cells #[a, b] t)).heap[w1.heap.size]? = some (.cells #[a, b] t (0, 0)) := heap_alloc_new w1 _
  have h1 : w2.heap[w1.heap.size]? = some (.cells #[a, b] t (0, 0)) := by
    rw [hb.block _ (by omega)]
    exact h0
  refine ⟨?_, ?_, by omega⟩
  · rw [cell_of_row _ _ 0 _ t (0, 0) h1]; rfl
  · rw [cell_of_row _ _ 1 _ t (0, 0) h1]; rfl

set_option maxRecDepth 100000 in
set_option maxHeartbeats 4000000 in
theorem gets (s : ByteArray) (_hs : s.size ≤ 140737488351232) (w : World) :
    Calls Try.prog 11 #[.string s] w fun e w' => e = .returned (.bool true) ∧ Below w.heap.size w w' := by
  by_cases hss : s.size ≤ 2500
  · have hsl : s.data.toList.length = s.size := by simp
    have hG := get_both s.data.toList
    rw [hsl] at hG
    have HG := Lib.hid hG
    clear hG hsl
    go_enter Try.func11, Try.ntmps11
    go_wp2_with fail
    refine (get_any s _ (by omega)).mono ?_
    rintro e w1 ⟨rfl, hb1⟩
    go_wp2_with fail
    refine (getR_any s _ (by omega)).mono ?_
    rintro e w2 ⟨rfl, hb2⟩
    rcases HG.out with ⟨g1, g2⟩ | ⟨p, q, hq1, hq2, g1, g2⟩
    · rw [g1] at hb2 ⊢
      rw [g2]
      clear g1 g2
      obtain ⟨c0, c1, hz⟩ := kept2 _ _ 34 (by simpa using hb2)
      have hB2 : Below w.heap.size w w2 := bnext (balloc hb1 _) hb2
      clear hb1 hb2
      go_wp2_with fail
      refine (all_told s _ (by omega)).mono ?_
      rintro e w3 ⟨A3, c3, l, n, rfl, hc1, hc2, hp3, hl4, -, hT, hb3⟩
      have HT := Lib.hid hT
      have hB3 := bnext (balloc hB2 _) hb3
      clear hT hb3 hB2
      go_wp2_with fail
      refine (allR_any s _ (by omega)).mono ?_
      rintro e w4 ⟨A4, c4, l2, b, rfl, hc3, hc4, hp4, hT2, hb4⟩
      have hp34 := hp3.below hb4
      have hB4 := bnext hB3 hb4
      have hl2 : l2 = l ∧ ((n = 2 ∧ b = false) ∨ (n = 0 ∧ b = true)) := by
        rcases hT2 with ⟨rfl, rfl, h1⟩ | ⟨rfl, h1⟩ <;> rcases HT.out with ⟨rfl, rfl, h2⟩ | ⟨rfl, h2, -⟩
        · exact ⟨rfl, .inl ⟨rfl, rfl⟩⟩
        · rw [h1] at h2; cases h2
        · rw [h1] at h2; cases h2
        · rw [h1] at h2; injection h2 with h2; exact ⟨h2, .inr ⟨rfl, rfl⟩⟩
      obtain ⟨rfl, hnb⟩ := hl2
      have HN := Lib.hid hnb
      clear hT2 HT hb4 hB3 hp3 hnb
      go_wp2_with fail
      refine (as_any A3 c3 l2 _ (by omega) hc1 hc2 hp34).mono ?_
      rintro e w5 ⟨v5, rfl, hown5, hb5⟩
      obtain ⟨A5, c5, rfl, hc51, hc52⟩ := own_slice hown5
      have hp5 := (pk_own hown5).2
      have hp45 := hp4.below hb5
      unfold maxLen at hc52
      have hB5 := bnext hB4 hb5
      clear hown5 hb5 hB4
      go_wp2_with fail
      refine (same_any A5 A4 c5 c4 l2 _ hc51 hc52 hp5 hp45).mono ?_
      rintro e w6 ⟨rfl, hb6⟩
      have hB6 := bnext hB5 hb6
      clear hB5 hb6 hp5 hp45 hp34 hp4
      go_wp2_with fail
      refine (knows_any _).mono ?_
      rintro e w7 ⟨rfl, hb7⟩
      have hB7 := bnext hB6 hb7
      clear hB6 hb7
      rcases HN.out with ⟨rfl, rfl⟩ | ⟨rfl, rfl⟩
      all_goals
        go_wp2
        go_ret
        exact ⟨rfl, hB7⟩
    · rw [g1] at hb2 ⊢
      rw [g2]
      clear g1 g2
      obtain ⟨c0, c1, hz⟩ := kept2 _ _ 34 (by simpa using hb2)
      have hB2 : Below w.heap.size w w2 := bnext (balloc hb1 _) hb2
      clear hb1 hb2
      have hx := ext_drop s q
      have hq0 : ((q : Int) == 0) = false := by simp; omega
      have hq2 : (0 : Int) < (q : Int) := by omega
      go_wp2_with fail
      refine (all_told s _ (by omega)).mono ?_
      rintro e w3 ⟨A3, c3, l, n, rfl, hc1, hc2, hp3, hl4, -, hT, hb3⟩
      have HT := Lib.hid hT
      have hB3 := bnext (balloc hB2 _) hb3
      clear hT hb3 hB2
      go_wp2_with fail
      refine (allR_any s _ (by omega)).mono ?_
      rintro e w4 ⟨A4, c4, l2, b, rfl, hc3, hc4, hp4, hT2, hb4⟩
      have hp34 := hp3.below hb4
      have hB4 := bnext hB3 hb4
      have hl2 : l2 = l ∧ ((n = 2 ∧ b = false) ∨ (n = 0 ∧ b = true)) := by
        rcases hT2 with ⟨rfl, rfl, h1⟩ | ⟨rfl, h1⟩ <;> rcases HT.out with ⟨rfl, rfl, h2⟩ | ⟨rfl, h2, -⟩
        · exact ⟨rfl, .inl ⟨rfl, rfl⟩⟩
        · rw [h1] at h2; cases h2
        · rw [h1] at h2; cases h2
        · rw [h1] at h2; injection h2 with h2; exact ⟨h2, .inr ⟨rfl, rfl⟩⟩
      obtain ⟨rfl, hnb⟩ := hl2
      have HN := Lib.hid hnb
      clear hT2 HT hb4 hB3 hp3 hnb
      go_wp2_with fail
      refine (as_any A3 c3 l2 _ (by omega) hc1 hc2 hp34).mono ?_
      rintro e w5 ⟨v5, rfl, hown5, hb5⟩
      obtain ⟨A5, c5, rfl, hc51, hc52⟩ := own_slice hown5
      have hp5 := (pk_own hown5).2
      have hp45 := hp4.below hb5
      unfold maxLen at hc52
      have hB5 := bnext hB4 hb5
      clear hown5 hb5 hB4
      go_wp2_with fail
      refine (same_any A5 A4 c5 c4 l2 _ hc51 hc52 hp5 hp45).mono ?_
      rintro e w6 ⟨rfl, hb6⟩
      have hB6 := bnext hB5 hb6
      clear hB5 hb6 hp5 hp45 hp34 hp4
      go_wp2_with fail
      refine (knows_any _).mono ?_
      rintro e w7 ⟨rfl, hb7⟩
      have hB7 := bnext hB6 hb7
      clear hB6 hb7
      rcases HN.out with ⟨rfl, rfl⟩ | ⟨rfl, rfl⟩
      all_goals
        go_wp2
        go_ret
        exact ⟨rfl, hB7⟩
  · have h2 : 2500 < s.size := by omega
    clear hss
    go_enter Try.func11, Try.ntmps11
    go_wp2_with fail
    refine (knows_any _).mono ?_
    rintro e w2 ⟨rfl, hb2⟩
    go_wp2
    go_ret
    exact ⟨rfl, hb2⟩
end Go.Proofs.Ytominjooffecnaa.WPk
