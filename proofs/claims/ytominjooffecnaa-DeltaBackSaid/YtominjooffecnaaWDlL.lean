/- The walk of the law DeltaApplies: it returns true, and what was there stays. -/
import Derived.Test.YtominjooffecnaaWDlR
import Derived.OpenShut
namespace Go.Proofs.Ytominjooffecnaa.WDl
open Go.RowKit Kn WVi

set_option maxRecDepth 100000 in
set_option maxHeartbeats 1000000 in
theorem knows_any (w : World) : Calls Try.prog 49 #[] w fun e w' => e = .returned (.bool true) ∧ Below w.heap.size w w' := by
  have k1 : Dl.apply [97, 98, 99, 100, 101, 102] [6, 5, 7, 1, 4, 120, 121] 9 = ([98, 99, 100, 120, 121], 0) := by decide +kernel
  have k2 : Dl.apply [97, 98, 99] [6, 5, 7, 1, 4, 120, 121] 9 = ([], 6) := by decide +kernel
  have k3 : Dl.apply [97, 98, 99, 100, 101, 102] [6, 5, 7, 1, 4, 120, 121] 4 = ([], 3) := by decide +kernel
  have k4 : Dl.size [6, 5, 7, 1, 4, 120, 121] = (5, 0) := by decide +kernel
  go_enter Try.func49, Try.ntmps49
  go_wp2_with fail
  refine (apply_any _ _ _ (by decide) (by decide) (by decide) (by decide) _).mono ?_
  rintro e w1 ⟨rfl, hb1⟩
  go_wp2_with fail
  refine (apply_any _ _ _ (by decide) (by decide) (by decide) (by decide) _).mono ?_
  rintro e w2 ⟨rfl, hb2⟩
  go_wp2_with fail
  refine (apply_any _ _ _ (by decide) (by decide) (by decide) (by decide) _).mono ?_
  rintro e w3 ⟨rfl, hb3⟩
  go_wp2_with fail
  refine (size_any _ (by decide) _).mono ?_
  rintro e w4 ⟨rfl, hb4⟩
  go_wp2
  go_ret
  exact ⟨rfl, bnext (bnext (bnext hb1 hb2) hb3) hb4⟩

theorem size_cases (d : List UInt8) : (Vi.get d = none ∧ Dl.size d = (0, 2)) ∨ ∃ b q, Vi.get d = some (b, d.drop q) ∧ getR d = (b, q) ∧ 1 ≤ q ∧ q ≤ d.length ∧
    ((Vi.get (d.drop q) = none ∧ Dl.size d = (0, 2)) ∨ ∃ t q2, getR (d.drop q) = (t, q2) ∧ t < 18446744073709551616 ∧ 1 ≤ q2 ∧ q2 ≤ d.length ∧ Dl.size d = if 2147483647 < t then (0, 2) else (t, 0)) := by
  unfold Dl.size Dl.head
  rcases getR_cases d with ⟨g1, g2⟩ | ⟨n, q, g1, hn, h1, h2, g2⟩
  · rw [g1]; exact .inl ⟨rfl, rfl⟩
  · refine .inr ⟨n, q, g1, g2, h1, h2, ?_⟩
    rw [g1]
    simp only
    rcases getR_cases (d.drop q) with ⟨g3, g4⟩ | ⟨t, q2, g3, ht, h3, h4, g4⟩
    · rw [g3]; exact .inl ⟨rfl, rfl⟩
    · rw [g3]
      rw [List.length_drop] at h4
      exact .inr ⟨t, q2, g4, ht, h3, by omega, rfl⟩

set_option maxRecDepth 100000 in
set_option maxHeartbeats 1000000 in
theorem applies (base : ByteArray) (hbs : base.size ≤ 140737488351232) (d : ByteArray) (hd : d.size ≤ 140737488351232) (most : Int) (hm : (Lit.int .i64 most).wf = true) (w : World) :
    Calls Try.prog 13 #[.string base, .string d, .int .i64 most] w fun e w' => e = .returned (.bool true) ∧ Below w.heap.size w w' := by
  have hmb := bounds_i64 hm
  have hm1 := hmb.1
  have hm2 := hmb.2
  clear hmb hm
  by_cases hs : base.size ≤ 400 ∧ d.size ≤ 400
  · obtain ⟨hs1, hs2⟩ := hs
    have hdl : d.data.toList.length = d.size := by simp
    go_enter Try.func13, Try.ntmps13
    go_wp2_with fail
    refine (apply_any _ _ _ (by omega) (by omega) hm1 hm2 _).mono ?_
    rintro e w1 ⟨rfl, hb1⟩
    go_wp2_with fail
    refine (applyR_any _ _ _ (by omega) (by omega) hm1 hm2 _).mono ?_
    rintro e w2 ⟨rfl, rfl⟩
    go_wp2_with fail
    refine (size_any _ (by omega) _).mono ?_
    rintro e w3 ⟨rfl, hb3⟩
    go_wp2_with fail
    refine (getR_any _ (by omega) _).mono ?_
    rintro e w4 ⟨rfl, rfl⟩
    rcases size_cases d.data.toList with ⟨g1, g2⟩ | ⟨b, q, g1, g2, h1, h2, g3⟩
    · have g4 : getR d.data.toList = (0, 0) := by rw [getR, g1]
      rw [g2, g4]
      clear g1 g2 hdl
      have hx : d.extract 0 d.size = d := by simp
      go_wp2_with fail
      refine (getR_any _ (by omega) _).mono ?_
      rintro e w5 ⟨rfl, rfl⟩
      rw [g4]
      clear g4
      go_wp2_with fail
      refine (knows_any _).mono ?_
      rintro e w6 ⟨rfl, hb6⟩
      go_wp2
      go_ret
      exact ⟨rfl, bnext (bnext hb1 hb3) hb6⟩
    · rw [g2]
      rw [hdl] at h2
      have hq0 : ((q : Int) == 0) = false := by simp; omega
      go_wp2_with fail
      refine (getR_any _ (by rw [ByteArray.size_extract]; omega) _).mono ?_
      rintro e w5 ⟨rfl, rfl⟩
      rw [ext_data]
      rcases g3 with ⟨g3, g4⟩ | ⟨t, q2, g3, ht, h3, h4, g4⟩
      · have g5 : getR (d.data.toList.drop q) = (0, 0) := by rw [getR, g3]
        rw [g4, g5]
        clear g1 g2 g3 g4 g5 hdl
        go_wp2_with fail
        refine (knows_any _).mono ?_
        rintro e w6 ⟨rfl, hb6⟩
        go_wp2
        go_ret
        exact ⟨rfl, bnext (bnext hb1 hb3) hb6⟩
      · rw [g3]
        have hq20 : ((q2 : Int) == 0) = false := by simp; omega
        by_cases htl : 2147483647 < t
        · rw [if_pos htl] at g4
          rw [g4]
          clear g1 g2 g3 g4 hdl
          go_wp2_with fail
          refine (knows_any _).mono ?_
          rintro e w6 ⟨rfl, hb6⟩
          go_wp2
          go_ret
          exact ⟨rfl, bnext (bnext hb1 hb3) hb6⟩
        · rw [if_neg htl] at g4
          rw [g4]
          clear g1 g2 g3 g4 hdl
          go_wp2_with fail
          refine (knows_any _).mono ?_
          rintro e w6 ⟨rfl, hb6⟩
          go_wp2
          go_ret
          exact ⟨rfl, bnext (bnext hb1 hb3) hb6⟩
  · rcases Nat.lt_or_ge 400 base.size with h | h
    · clear hs
      go_enter Try.func13, Try.ntmps13
      go_wp2_with fail
      refine (knows_any _).mono ?_
      rintro e w6 ⟨rfl, hb6⟩
      go_wp2
      go_ret
      exact ⟨rfl, hb6⟩
    · have h2 : 400 < d.size := by omega
      clear hs
      go_enter Try.func13, Try.ntmps13
      go_wp2_with fail
      refine (knows_any _).mono ?_
      rintro e w6 ⟨rfl, hb6⟩
      go_wp2
      go_ret
      exact ⟨rfl, hb6⟩
end Go.Proofs.Ytominjooffecnaa.WDl
