/- What layer 6's Apply computes; for a base and a delta of at most 5000 bytes each. -/
import Derived.Test.YtominjooffecnaaWDlS
import Derived.Lib.AppendStr
namespace Go.Proofs.Ytominjooffecnaa.WDl
open Go.RowKit Kn WVi

def lenOf : Value → Nat | .string s => s.size | _ => 0

theorem stepN_cases (b d : List UInt8) : (Dl.step b d = none ∧ stepN b d = ([], [])) ∨ ∃ m r, Dl.step b d = some (m, r) ∧ r.length < d.length ∧ 0 < m.length ∧ m.length ≤ b.length + d.length ∧ stepN b d = (m, r) := by
  unfold stepN
  cases hg : Dl.step b d with
  | none => exact .inl ⟨rfl, rfl⟩
  | some p =>
    have h := Dl.step_lt hg
    exact .inr ⟨p.1, p.2, rfl, h.1, h.2.1, h.2.2, rfl⟩

theorem strCells_bytesV (s : ByteArray) : Lib.strCells s = bytesV s.data.toList := rfl

/-- what the loop comes to -/
def runN (o : Option (List UInt8)) : List UInt8 × Nat := match o with
  | none => ([], 2)
  | some out => (out, 0)

set_option maxRecDepth 100000 in
set_option maxHeartbeats 2000000 in
theorem apply_any (base d : ByteArray) (most : Int) (hbs : base.size ≤ 5000) (hd : d.size ≤ 5000) (hm1 : -9223372036854775808 ≤ most) (hm2 : most ≤ 9223372036854775807) (w : World) :
    Calls Try.prog 50 #[.string base, .string d, .int .i64 most] w fun e w' => e = .returned (.tuple #[.string ⟨(Dl.apply base.data.toList d.data.toList most).1.toArray⟩, .int .i64 (Dl.apply base.data.toList d.data.toList most).2]) ∧ Below w.heap.size w w' := by
  obtain ⟨i5, hi5, hz5, hs5, hb5⟩ := info_parts info5
  have hbl : base.data.toList.length = base.size := by simp
  have hdl : d.data.toList.length = d.size := by simp
  by_cases hneg : most < 0
  · have HE := Lib.hid (show Dl.apply base.data.toList d.data.toList most = ([], 1) by rw [Dl.apply, if_pos hneg])
    clear hbl hdl
    go_enter Try.func50, Try.ntmps50
    go_wp2
    go_ret2
    exact ⟨by rw [HE.out]; rfl, Below.refl _ _⟩
  · have hneg' : 0 ≤ most := by omega
    go_enter Try.func50, Try.ntmps50
    go_wp2_with fail
    refine (head_any _ (by omega) _).mono ?_
    rintro e w1 ⟨rfl, hb1⟩
    rcases headN_cases d.data.toList with ⟨g1, g2⟩ | ⟨b, t, r, g1, hb, ht, hr, g2⟩
    · have HE := Lib.hid (show Dl.apply base.data.toList d.data.toList most = ([], 2) by rw [Dl.apply, if_neg (by omega), g1])
      rw [g2]
      clear g1 g2 hbl hdl
      go_wp2
      go_ret2
      exact ⟨by rw [HE.out]; rfl, hb1⟩
    · rw [g2]
      clear g2
      by_cases hbb : b = base.size
      · subst hbb
        by_cases htm : most < (t : Int)
        · have HE := Lib.hid (show Dl.apply base.data.toList d.data.toList most = ([], 3) by rw [Dl.apply, if_neg (by omega), g1]; simp only; rw [if_neg (by omega), if_pos htm])
          clear g1 hbl hdl hr
          go_wp2
          go_ret2
          exact ⟨by rw [HE.out]; rfl, hb1⟩
        · have HE := Lib.hid (show Dl.apply base.data.toList d.data.toList most = runN (Dl.run r.length base.data.toList t [] r) by rw [Dl.apply, if_neg (by omega), g1]; simp only; rw [if_neg (by omega), if_neg htm]; rfl)
          have htm' : (t : Int) ≤ most := by omega
          clear g1
          rw [hdl] at hr
          clear hdl
          have hwl := hb1.size
          go_wp2
          go_loopw [10, 12] (fun rr v wr => ∃ (R : ByteArray) (out : List UInt8) (k : Nat), rr = .string R ∧ R.size ≤ 5000 ∧ R.size ≤ k ∧ out.length ≤ t ∧ out.length + 10000 * R.size ≤ 50000000 ∧ wr.ownsRow w.heap.size 5 1 v out.length (bytesV out) ∧ Below w.heap.size w wr ∧
            Hid (Dl.apply base.data.toList d.data.toList most = runN (Dl.run k base.data.toList t out R.data.toList))) (fun rr _ _ => lenOf rr)
          case atStart =>
            refine ⟨⟨r.toArray⟩, [], r.length, rfl, by rw [size_mk]; omega, by rw [size_mk]; omega, by simp, by rw [size_mk]; simp; omega, World.ownsRow_nil _ _ _ _, hb1, HE⟩
          case round =>
            clear hb1 hwl HE hr
            obtain ⟨R, out, k, rfl, hR1, hR2, ho1, ho2, hown, hbel, HE⟩ := hrel
            by_cases hR : R = ⟨#[]⟩
            · subst hR
              have HE2 := Lib.hid (show Dl.apply base.data.toList d.data.toList most = runN (if out.length = t then some out else none) by rw [HE.out, show (⟨#[]⟩ : ByteArray).data.toList = [] from rfl, Dl.run_nil])
              clear HE
              by_cases hlt : out.length = t
              · have HE3 := Lib.hid (show Dl.apply base.data.toList d.data.toList most = (out, 0) by rw [HE2.out, if_pos hlt]; rfl)
                clear HE2
                obtain ⟨A, cap, hv, _, hcap⟩ := own_slice hown
                subst hv
                unfold maxLen at hcap
                have hcv := conv_any hown
                have hlt' : ((out.length : Int) != (t : Int)) = false := by simp; omega
                have hbel' := hbel
                clear hlt hown
                go_wp2
                go_ret2
                exact ⟨ret2 (by rw [HE3.out]) (by rw [HE3.out]; rfl), hbel'⟩
              · have HE3 := Lib.hid (show Dl.apply base.data.toList d.data.toList most = ([], 2) by rw [HE2.out, if_neg hlt]; rfl)
                obtain ⟨A, c, rfl, _, _⟩ := own_slice hown
                have hlt' : ((out.length : Int) != (t : Int)) = true := by simp; omega
                have hbel' := hbel
                clear HE2 hlt hown
                go_wp2
                go_ret2
                exact ⟨by rw [HE3.out]; rfl, hbel'⟩
            · have hRne : (!R.toList.isEmpty) = true := by
                have : R.data.toList ≠ [] := by
                  intro h
                  exact hR (by rw [← Lib.mk_data R, h])
                rw [Lib.toList_data]
                cases hq : R.data.toList with
                | nil => exact absurd hq this
                | cons => rfl
              have hRl : R.data.toList.length = R.size := by simp
              have hRn : R.data.toList ≠ [] := by
                intro h
                exact hR (by rw [← Lib.mk_data R, h])
              have HRn := Lib.hid hRn
              clear hR hRn
              obtain ⟨A, c, hv, hc1, hc2⟩ := own_slice hown
              subst hv
              unfold maxLen at hc2
              go_wp2_with fail
              refine (step_any base R (by omega) (by omega) _).mono ?_
              rintro e w2 ⟨rfl, hb2⟩
              have hbel2 := bnext hbel hb2
              have hown2 := own_below hown hb2
              clear hown hbel hb2 hRne
              rcases stepN_cases base.data.toList R.data.toList with ⟨s1, s2⟩ | ⟨m, q, s1, hq, hm0, hmq, s2⟩
              · have HE3 := Lib.hid (show Dl.apply base.data.toList d.data.toList most = ([], 2) by rw [HE.out, Dl.run_none HRn.out s1]; rfl)
                rw [s2]
                clear HE s1 s2 hRl
                go_wp2
                go_ret2
                exact ⟨by rw [HE3.out]; rfl, hbel2⟩
              · rw [s2]
                clear s2
                rw [hRl] at hq hmq
                rw [hbl] at hmq
                obtain ⟨M, HM⟩ : ∃ M : ByteArray, Hid (M = ⟨m.toArray⟩) := ⟨_, rfl⟩
                have hMs : M.size = m.length := by rw [HM.out, size_mk]
                have HMd : Hid (M.data.toList = m) := by show _ = _; rw [HM.out]
                simp only
                rw [← HM.out]
                have hMne : M.toList.isEmpty = false := by
                  rw [Lib.toList_data, HMd.out]
                  cases m with
                  | nil => simp at hm0
                  | cons => rfl
                have hMs' : M.size ≤ 10000 := by omega
                by_cases hbig : t - out.length < m.length
                · have HE3 := Lib.hid (show Dl.apply base.data.toList d.data.toList most = ([], 2) by rw [HE.out, Dl.run_big HRn.out s1 hbig]; rfl)
                  have hbig' : (t : Int) - (out.length : Int) < (M.size : Int) := by omega
                  clear HE s1 hRl hbig hMs
                  go_wp2
                  go_ret2
                  exact ⟨by rw [HE3.out]; rfl, hbel2⟩
                · obtain ⟨j, hj, hjr⟩ := Dl.run_step (by rw [hRl]; exact hR2) s1 hbig
                  have HE3 := Lib.hid (show Dl.apply base.data.toList d.data.toList most = runN (Dl.run j base.data.toList t (out ++ m) q) by rw [HE.out, hjr])
                  have hbig' : (M.size : Int) ≤ (t : Int) - (out.length : Int) := by omega
                  have hqs : q.length + 1 ≤ R.size := by omega
                  have HMs := Lib.hid hMs
                  have HQ : Hid (out.length + m.length ≤ t ∧ out.length + m.length + 10000 * q.length ≤ 50000000 ∧ q.length ≤ j) := ⟨by omega, by omega, hj⟩
                  clear HE s1 hRl hbig hMs hjr hj hmq hm0
                  go_wp2_with (at_builtin; refine wpList_append_str _ rfl (.tmp 59) (.tmp 60) 52 9 rfl w.heap.size 5 i5 Try.underlying52 Try.underlying9 hi5 hz5 hs5 hb5 _ _ _ hown2 rfl M rfl ?d1 ?d2 ?d3 ?_)
                  case d1 => unfold maxLen; omega
                  case d2 => omega
                  case d3 => exact hbel2.size
                  intro v' w3 hown3 hgrow _
                  have hbel3 := hbel2.grown hgrow hbel2.size (ownBlock_ge hown2)
                  clear hown2 hgrow hbel2
                  go_wp2
                  go_roundw
                  case rel =>
                    refine ⟨⟨q.toArray⟩, out ++ m, j, rfl, by rw [size_mk]; omega, by rw [size_mk]; exact HQ.out.2.2, by rw [List.length_append]; exact HQ.out.1, by rw [List.length_append, size_mk]; exact HQ.out.2.1, ?_, hbel3, HE3.out⟩
                    rw [List.length_append, bytesV_append, ← HMs.out]
                    rw [strCells_bytesV, HMd.out] at hown3
                    exact hown3
                  case measure => simp [lenOf, size_mk]; omega
      · have HE := Lib.hid (show Dl.apply base.data.toList d.data.toList most = ([], 6) by rw [Dl.apply, if_neg (by omega), g1]; simp only; rw [if_pos (by omega)])
        have hbb' : ((b : Int) != (base.size : Int)) = true := by simp; omega
        clear g1 hbl hdl hr
        go_wp2
        go_ret2
        exact ⟨by rw [HE.out]; rfl, hb1⟩
end Go.Proofs.Ytominjooffecnaa.WDl
