/- What layer 6's reference computes at Apply; for a base and a delta of at most 5000 bytes each. -/
import Derived.Test.YtominjooffecnaaWDlA
namespace Go.Proofs.Ytominjooffecnaa.WDl
open Go.RowKit Kn WVi

theorem step_none1 {b d : List UInt8} (h : Vi.get d = none) : Dl.step b d = none := by rw [Dl.step, h]
theorem step_none2 {b d r : List UInt8} {n : Nat} (h : Vi.get d = some (n, r)) (h2 : n < 2) : Dl.step b d = none := by rw [Dl.step, h]; simp only; rw [if_pos (by omega)]
theorem step_even {b d r : List UInt8} {n : Nat} (h : Vi.get d = some (n, r)) (h2 : ¬ n < 2) (h3 : n % 2 = 0) : Dl.step b d = if r.length < n / 2 then none else some (r.take (n / 2), r.drop (n / 2)) := by
  rw [Dl.step, h]; simp only; rw [if_neg (by omega), if_pos h3]
theorem step_odd1 {b d r : List UInt8} {n : Nat} (h : Vi.get d = some (n, r)) (h2 : ¬ n < 2) (h3 : ¬ n % 2 = 0) (h4 : Vi.get r = none) : Dl.step b d = none := by
  rw [Dl.step, h]; simp only; rw [if_neg (by omega), if_neg h3, h4]
theorem step_odd2 {b d r r2 : List UInt8} {n a : Nat} (h : Vi.get d = some (n, r)) (h2 : ¬ n < 2) (h3 : ¬ n % 2 = 0) (h4 : Vi.get r = some (a, r2)) :
    Dl.step b d = if b.length < a then none else if b.length - a < n / 2 then none else some ((b.drop a).take (n / 2), r2) := by
  rw [Dl.step, h]; simp only; rw [if_neg (by omega), if_neg h3, h4]

theorem getR_cases (s : List UInt8) : (Vi.get s = none ∧ getR s = (0, 0)) ∨ ∃ n q, Vi.get s = some (n, s.drop q) ∧ n < 18446744073709551616 ∧ 1 ≤ q ∧ q ≤ s.length ∧ getR s = (n, q) := by
  unfold getR
  cases hg : Vi.get s with
  | none => exact .inl ⟨rfl, rfl⟩
  | some p =>
    obtain ⟨n, r⟩ := p
    have h1 := get_rest_le hg
    have h2 := drop_of_cat (Vi.get_eq hg)
    refine .inr ⟨n, s.length - r.length, ?_, Vi.get_lt hg, by omega, by omega, rfl⟩
    rw [← h2]

theorem ext_data (s : ByteArray) (a : Nat) : (s.extract a s.size).data.toList = s.data.toList.drop a := by
  rw [Lib.extract_data]
  exact List.take_of_length_le (by simp)

set_option maxRecDepth 100000 in
set_option maxHeartbeats 4000000 in
theorem applyR_any (base d : ByteArray) (most : Int) (hbs : base.size ≤ 5000) (hd : d.size ≤ 5000) (hm1 : -9223372036854775808 ≤ most) (hm2 : most ≤ 9223372036854775807) (w : World) :
    Calls Try.prog 51 #[.string base, .string d, .int .i64 most] w fun e w' => e = .returned (.tuple #[.string ⟨(Dl.apply base.data.toList d.data.toList most).1.toArray⟩, .int .i64 (Dl.apply base.data.toList d.data.toList most).2]) ∧ w = w' := by
  have hbl : base.data.toList.length = base.size := by simp
  have hdl : d.data.toList.length = d.size := by simp
  by_cases hneg : most < 0
  · have HE := Lib.hid (show Dl.apply base.data.toList d.data.toList most = ([], 1) by rw [Dl.apply, if_pos hneg])
    clear hbl hdl
    go_enter Try.func51, Try.ntmps51
    go_wp2
    go_ret2
    exact ⟨by rw [HE.out]; rfl, rfl⟩
  · have hneg' : 0 ≤ most := by omega
    go_enter Try.func51, Try.ntmps51
    go_wp2_with fail
    refine (getR_any _ (by omega) _).mono ?_
    rintro e w1 ⟨rfl, rfl⟩
    rcases getR_cases d.data.toList with ⟨g1, g2⟩ | ⟨b, q, g1, hb, hq1, hq2, g2⟩
    · have HE := Lib.hid (show Dl.apply base.data.toList d.data.toList most = ([], 2) by rw [Dl.apply, if_neg (by omega), Dl.head, g1])
      rw [g2]
      clear g1 g2 hbl hdl
      go_wp2
      go_ret2
      exact ⟨by rw [HE.out]; rfl, rfl⟩
    · rw [g2]
      clear g2
      rw [hdl] at hq2
      have hq0 : ((q : Int) == 0) = false := by simp; omega
      go_wp2_with fail
      refine (getR_any _ (by rw [ByteArray.size_extract]; omega) _).mono ?_
      rintro e w1 ⟨rfl, rfl⟩
      rw [ext_data]
      rcases getR_cases (d.data.toList.drop q) with ⟨g3, g4⟩ | ⟨t, q2, g3, ht, hq3, hq4, g4⟩
      · have HE := Lib.hid (show Dl.apply base.data.toList d.data.toList most = ([], 2) by rw [Dl.apply, if_neg (by omega), Dl.head, g1]; simp only; rw [g3])
        rw [g4]
        clear g1 g3 g4 hbl hdl
        go_wp2
        go_ret2
        exact ⟨by rw [HE.out]; rfl, rfl⟩
      · rw [g4]
        clear g4
        have hq20 : ((q2 : Int) == 0) = false := by simp; omega
        rw [List.length_drop, hdl] at hq4
        have hhead : Dl.head d.data.toList = some (b, t, d.data.toList.drop (q + q2)) := by
          rw [Dl.head, g1]; simp only; rw [g3]; simp only [List.drop_drop]
        by_cases hbb : b = base.size
        · subst hbb
          by_cases htm : most < (t : Int)
          · have HE := Lib.hid (show Dl.apply base.data.toList d.data.toList most = ([], 3) by rw [Dl.apply, if_neg (by omega), hhead]; simp only; rw [if_neg (by omega), if_pos htm])
            clear g1 g3 hbl hdl hhead
            go_wp2
            go_ret2
            exact ⟨by rw [HE.out]; rfl, rfl⟩
          · have HE := Lib.hid (show Dl.apply base.data.toList d.data.toList most = runN (Dl.run (d.size - (q + q2)) base.data.toList t [] (d.data.toList.drop (q + q2))) by
              rw [Dl.apply, if_neg (by omega), hhead]; simp only; rw [if_neg (by omega), if_neg htm, List.length_drop, hdl]; rfl)
            have htm' : (t : Int) ≤ most := by omega
            clear g1 g3 hhead
            go_wp2
            go_loop [12, 13] (fun v i => ∃ (out : ByteArray) (a k : Nat), v = .string out ∧ i = .int .i64 a ∧ a ≤ d.size ∧ d.size - a ≤ k ∧ out.size ≤ t ∧ out.size + 10000 * (d.size - a) ≤ 50000000 ∧
                Hid (Dl.apply base.data.toList d.data.toList most = runN (Dl.run k base.data.toList t out.data.toList (d.data.toList.drop a)))) (fun _ i => d.size - (intOf i).toNat)
            case atStart => exact ⟨⟨#[]⟩, q + q2, d.size - (q + q2), rfl, by go_num, by omega, by omega, Nat.zero_le _, by show 0 + 10000 * (d.size - (q + q2)) ≤ 50000000; omega, HE⟩
            case round =>
              clear HE
              obtain ⟨out, a, k, rfl, rfl, ha, hak, ho1, ho2, HE⟩ := hrel
              by_cases had : a < d.size
              · have hLn : d.data.toList.drop a ≠ [] := by
                  intro h
                  have := congrArg List.length h
                  rw [List.length_drop, hdl] at this
                  simp at this; omega
                have HLn := Lib.hid hLn
                clear hLn
                have hLl : (d.data.toList.drop a).length = d.size - a := by rw [List.length_drop, hdl]
                go_wp2_with fail
                refine (getR_any _ (by rw [ByteArray.size_extract]; omega) _).mono ?_
                rintro e w1 ⟨rfl, rfl⟩
                rw [ext_data]
                rcases getR_cases (d.data.toList.drop a) with ⟨g1, g2⟩ | ⟨n, p, g1, hn, hp1, hp2, g2⟩
                · have HE3 := Lib.hid (show Dl.apply base.data.toList d.data.toList most = ([], 2) by rw [HE.out, Dl.run_none HLn.out (step_none1 g1)]; rfl)
                  rw [g2]
                  clear HE g1 g2 hbl hdl hLl
                  go_wp2
                  go_ret2
                  exact ⟨by rw [HE3.out]; rfl, rfl⟩
                · rw [g2]
                  clear g2
                  rw [hLl] at hp2
                  have hp0 : ((p : Int) == 0) = false := by simp; omega
                  by_cases hn2 : n < 2
                  · have HE3 := Lib.hid (show Dl.apply base.data.toList d.data.toList most = ([], 2) by rw [HE.out, Dl.run_none HLn.out (step_none2 g1 hn2)]; rfl)
                    clear HE g1 hbl hdl hLl
                    go_wp2
                    go_ret2
                    exact ⟨by rw [HE3.out]; rfl, rfl⟩
                  · by_cases hev : n % 2 = 0
                    · have hev' : ((n : Int) % 2 == 0) = true := by simp; omega
                      have hst := step_even (b := base.data.toList) g1 hn2 hev
                      rw [List.drop_drop, List.length_drop, hdl] at hst
                      by_cases hlt : d.size - (a + p) < n / 2
                      · rw [if_pos hlt] at hst
                        have HE3 := Lib.hid (show Dl.apply base.data.toList d.data.toList most = ([], 2) by rw [HE.out, Dl.run_none HLn.out hst]; rfl)
                        have hlt' : (d.size : Int) - ((a : Int) + (p : Int)) < (n : Int) / 2 := by omega
                        clear HE g1 hbl hdl hLl hst hev
                        go_wp2
                        go_ret2
                        exact ⟨by rw [HE3.out]; rfl, rfl⟩
                      · rw [if_neg hlt] at hst
                        have hlt' : (n : Int) / 2 ≤ (d.size : Int) - ((a : Int) + (p : Int)) := by omega
                        have hml : ((d.data.toList.drop (a + p)).take (n / 2)).length = n / 2 := by rw [List.length_take, List.length_drop, hdl]; omega
                        by_cases hbig : t - out.size < n / 2
                        · have HE3 := Lib.hid (show Dl.apply base.data.toList d.data.toList most = ([], 2) by rw [HE.out, Dl.run_big HLn.out hst (by rw [hml]; simpa using hbig)]; rfl)
                          have hbig' : (t : Int) - (out.size : Int) < (n : Int) / 2 := by omega
                          clear HE g1 hbl hdl hLl hst hev hml hbig hlt
                          go_wp2
                          go_ret2
                          exact ⟨by rw [HE3.out]; rfl, rfl⟩
                        · obtain ⟨j, hj, hjr⟩ := Dl.run_step (k := k) (size := t) (out := out.data.toList) (by rw [hLl]; exact hak) hst (by rw [hml]; simpa using hbig)
                          rw [List.drop_drop, List.length_drop, hdl] at hj
                          rw [List.drop_drop] at hjr
                          have HE3 := Lib.hid (HE.out.trans (congrArg runN hjr))
                          have hbig' : (n : Int) / 2 ≤ (t : Int) - (out.size : Int) := by omega
                          have hmd : n / 2 ≤ 5000 := by omega
                          have HJ : Hid (a + p + n / 2 ≤ d.size ∧ d.size - (a + p + n / 2) ≤ j) := ⟨by omega, hj⟩
                          clear HE g1 hbl hLl hst hev hml hbig hlt hjr hj hdl
                          go_wp2
                          go_round
                          case rel =>
                            refine ⟨_, a + p + n / 2, j, rfl, by go_num, HJ.out.1, HJ.out.2, ?_, ?_, ?_⟩
                            · rw [ByteArray.size_append, ByteArray.size_extract, ByteArray.size_extract]; omega
                            · rw [ByteArray.size_append, ByteArray.size_extract, ByteArray.size_extract]
                              have := HJ.out.1
                              omega
                            · show _ = _
                              rw [cat_data, Lib.extract_data, ext_data, List.drop_zero, Nat.sub_zero]
                              exact HE3.out
                          case measure => simp [intOf]; omega
                    · have hev' : ((n : Int) % 2 == 0) = false := by simp; omega
                      go_wp2_with fail
                      refine (getR_any _ (by rw [ByteArray.size_extract]; omega) _).mono ?_
                      rintro e w1 ⟨rfl, rfl⟩
                      rw [ext_data]
                      rw [List.drop_drop] at g1
                      rcases getR_cases (d.data.toList.drop (a + p)) with ⟨g3, g4⟩ | ⟨c, p2, g3, hc, hp3, hp4, g4⟩
                      · have HE3 := Lib.hid (show Dl.apply base.data.toList d.data.toList most = ([], 2) by rw [HE.out, Dl.run_none HLn.out (step_odd1 g1 hn2 hev g3)]; rfl)
                        rw [g4]
                        clear HE g1 g3 g4 hbl hdl hLl hev
                        go_wp2
                        go_ret2
                        exact ⟨by rw [HE3.out]; rfl, rfl⟩
                      · rw [g4]
                        clear g4
                        rw [List.length_drop, hdl] at hp4
                        have hp20 : ((p2 : Int) == 0) = false := by simp; omega
                        rw [List.drop_drop] at g3
                        have hst := step_odd2 (b := base.data.toList) g1 hn2 hev g3
                        rw [hbl] at hst
                        by_cases hl1 : base.size < c
                        · rw [if_pos hl1] at hst
                          have HE3 := Lib.hid (show Dl.apply base.data.toList d.data.toList most = ([], 2) by rw [HE.out, Dl.run_none HLn.out hst]; rfl)
                          clear HE g1 g3 hbl hdl hLl hst hev
                          go_wp2
                          go_ret2
                          exact ⟨by rw [HE3.out]; rfl, rfl⟩
                        · rw [if_neg hl1] at hst
                          by_cases hl2 : base.size - c < n / 2
                          · rw [if_pos hl2] at hst
                            have HE3 := Lib.hid (show Dl.apply base.data.toList d.data.toList most = ([], 2) by rw [HE.out, Dl.run_none HLn.out hst]; rfl)
                            have hl2' : (base.size : Int) - (c : Int) < (n : Int) / 2 := by omega
                            clear HE g1 g3 hbl hdl hLl hst hev
                            go_wp2
                            go_ret2
                            exact ⟨by rw [HE3.out]; rfl, rfl⟩
                          · rw [if_neg hl2] at hst
                            have hl2' : (n : Int) / 2 ≤ (base.size : Int) - (c : Int) := by omega
                            have hml : ((base.data.toList.drop c).take (n / 2)).length = n / 2 := by rw [List.length_take, List.length_drop, hbl]; omega
                            by_cases hbig : t - out.size < n / 2
                            · have HE3 := Lib.hid (show Dl.apply base.data.toList d.data.toList most = ([], 2) by rw [HE.out, Dl.run_big HLn.out hst (by rw [hml]; simpa using hbig)]; rfl)
                              have hbig' : (t : Int) - (out.size : Int) < (n : Int) / 2 := by omega
                              clear HE g1 g3 hbl hdl hLl hst hev hml hbig hl2
                              go_wp2
                              go_ret2
                              exact ⟨by rw [HE3.out]; rfl, rfl⟩
                            · obtain ⟨j, hj, hjr⟩ := Dl.run_step (k := k) (size := t) (out := out.data.toList) (by rw [hLl]; exact hak) hst (by rw [hml]; simpa using hbig)
                              rw [List.length_drop, hdl] at hj
                              have HE3 := Lib.hid (HE.out.trans (congrArg runN hjr))
                              have hbig' : (n : Int) / 2 ≤ (t : Int) - (out.size : Int) := by omega
                              have hmd : n / 2 ≤ 5000 := by omega
                              have hsum : (c : Int) + (n : Int) / 2 ≤ (base.size : Int) := by omega
                              have HJ : Hid (a + p + p2 ≤ d.size ∧ d.size - (a + p + p2) ≤ j) := ⟨by omega, hj⟩
                              clear HE g1 g3 hbl hLl hst hev hml hbig hjr hj hdl hl2
                              go_wp2
                              go_round
                              case rel =>
                                refine ⟨_, a + p + p2, j, rfl, by go_num, HJ.out.1, HJ.out.2, ?_, ?_, ?_⟩
                                · rw [ByteArray.size_append, ByteArray.size_extract]; omega
                                · rw [ByteArray.size_append, ByteArray.size_extract]
                                  have := HJ.out.1
                                  omega
                                · show _ = _
                                  rw [cat_data, Lib.extract_data]
                                  simpa using HE3.out
                              case measure => simp [intOf]; omega
              · obtain rfl : a = d.size := by omega
                have hnil : d.data.toList.drop d.size = [] := List.drop_of_length_le (by rw [hdl]; exact Nat.le_refl _)
                have hol : out.data.toList.length = out.size := by simp
                have HE2 := Lib.hid (show Dl.apply base.data.toList d.data.toList most = runN (if out.size = t then some out.data.toList else none) by rw [HE.out, hnil, Dl.run_nil, hol])
                have ho5 : out.size ≤ 50000000 := by omega
                clear HE hnil hol hbl hdl
                by_cases hlt : out.size = t
                · have HE3 := Lib.hid (show Dl.apply base.data.toList d.data.toList most = (out.data.toList, 0) by rw [HE2.out, if_pos hlt]; rfl)
                  have hlt' : ((out.size : Int) != (t : Int)) = false := by simp; omega
                  clear HE2 hlt
                  go_wp2
                  go_ret2
                  exact ⟨ret2 (by rw [HE3.out]) (by rw [HE3.out]; rfl), rfl⟩
                · have HE3 := Lib.hid (show Dl.apply base.data.toList d.data.toList most = ([], 2) by rw [HE2.out, if_neg hlt]; rfl)
                  have hlt' : ((out.size : Int) != (t : Int)) = true := by simp; omega
                  clear HE2 hlt
                  go_wp2
                  go_ret2
                  exact ⟨by rw [HE3.out]; rfl, rfl⟩
        · have HE := Lib.hid (show Dl.apply base.data.toList d.data.toList most = ([], 6) by rw [Dl.apply, if_neg (by omega), hhead]; simp only; rw [if_pos (by omega)])
          have hbb' : ((b : Int) != (base.size : Int)) = true := by simp; omega
          clear g1 g3 hbl hdl hhead
          go_wp2
          go_ret2
          exact ⟨by rw [HE.out]; rfl, rfl⟩
end Go.Proofs.Ytominjooffecnaa.WDl
