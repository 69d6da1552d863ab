/- What layer 6's head, Size and step compute. -/
import Derived.Test.YtominjooffecnaaWViL
import Derived.Test.YtominjooffecnaaPDl
import Derived.Tactics
namespace Go.Proofs.Ytominjooffecnaa.WDl
open Go.RowKit Kn WVi

theorem results_tmp4 {fn : Func} {t u v x : Tmp} (h : fn.results = #[.tmp t, .tmp u, .tmp v, .tmp x]) (tmps : Array Value) (P : Program) (w : World) :
    (results fn tmps).run P w = .ok (.tuple #[tmps.getD t undef, tmps.getD u undef, tmps.getD v undef, tmps.getD x undef]) w := by simp [results, h]

/-- what head gives -/
def headN (d : List UInt8) : Nat × Nat × List UInt8 × Nat := match Dl.head d with
  | none => (0, 0, [], 2)
  | some (b, t, r) => (b, t, r, 0)

/-- what Get gives, told by cases -/
theorem getN_cases (s : List UInt8) : (Vi.get s = none ∧ getN s = (0, [], 2)) ∨ ∃ n r, Vi.get s = some (n, r) ∧ n < 18446744073709551616 ∧ r.length + 1 ≤ s.length ∧ getN s = (n, r, 0) := by
  unfold getN
  cases hg : Vi.get s with
  | none => exact .inl ⟨rfl, rfl⟩
  | some p => exact .inr ⟨p.1, p.2, rfl, Vi.get_lt hg, get_rest_le hg, rfl⟩

set_option maxRecDepth 100000 in
set_option maxHeartbeats 1000000 in
theorem head_any (d : ByteArray) (hd : d.size ≤ 9223372036854775807) (w : World) :
    Calls Try.prog 71 #[.string d] w fun e w' => e = .returned (.tuple #[.int .u64 (headN d.data.toList).1, .int .u64 (headN d.data.toList).2.1, .string ⟨(headN d.data.toList).2.2.1.toArray⟩, .int .i64 (headN d.data.toList).2.2.2]) ∧ Below w.heap.size w w' := by
  go_enter Try.func71, Try.ntmps71
  go_wp2_with fail
  refine (get_any _ hd _).mono ?_
  rintro e w1 ⟨rfl, hb1⟩
  rcases getN_cases d.data.toList with ⟨g1, g2⟩ | ⟨n, r, g1, hn, hr, g2⟩
  · have e1 : headN d.data.toList = (0, 0, [], 2) := by rw [headN, Dl.head, g1]
    have HE := Lib.hid e1
    rw [g2]
    clear g1 g2 e1
    go_wp2
    refine bodyPost_ret (results_tmp4 rfl _ _ _) rfl ⟨?_, hb1⟩
    rw [HE.out]; rfl
  · rw [g2]
    clear g2
    have hrs : r.length ≤ 9223372036854775807 := by
      have : d.data.toList.length = d.size := by simp
      omega
    go_wp2_with fail
    refine (get_any _ (by rw [size_mk]; exact hrs) _).mono ?_
    rintro e w2 ⟨rfl, hb2⟩
    rw [show (⟨r.toArray⟩ : ByteArray).data.toList = r from rfl]
    rcases getN_cases r with ⟨g3, g4⟩ | ⟨n2, r2, g3, hn2, hr2, g4⟩
    · have e1 : headN d.data.toList = (0, 0, [], 2) := by rw [headN, Dl.head, g1]; simp only; rw [g3]
      have HE := Lib.hid e1
      rw [g4]
      clear g1 g3 g4 e1 hr
      go_wp2
      refine bodyPost_ret (results_tmp4 rfl _ _ _) rfl ⟨?_, bnext hb1 hb2⟩
      rw [HE.out]; rfl
    · have e1 : headN d.data.toList = (n, n2, r2, 0) := by rw [headN, Dl.head, g1]; simp only; rw [g3]
      have HE := Lib.hid e1
      rw [g4]
      clear g1 g3 g4 e1 hr hr2
      go_wp2
      refine bodyPost_ret (results_tmp4 rfl _ _ _) rfl ⟨?_, bnext hb1 hb2⟩
      rw [HE.out]; rfl

theorem headN_cases (s : List UInt8) : (Dl.head s = none ∧ headN s = (0, 0, [], 2)) ∨ ∃ b t r, Dl.head s = some (b, t, r) ∧ b < 18446744073709551616 ∧ t < 18446744073709551616 ∧ r.length + 2 ≤ s.length ∧ headN s = (b, t, r, 0) := by
  unfold headN
  cases hg : Dl.head s with
  | none => exact .inl ⟨rfl, rfl⟩
  | some p =>
    have h := Dl.head_lt hg
    exact .inr ⟨p.1, p.2.1, p.2.2, rfl, h.1, h.2.1, h.2.2, rfl⟩

set_option maxRecDepth 100000 in
set_option maxHeartbeats 1000000 in
theorem size_any (d : ByteArray) (hd : d.size ≤ 9223372036854775807) (w : World) :
    Calls Try.prog 52 #[.string d] w fun e w' => e = .returned (.tuple #[.int .i64 (Dl.size d.data.toList).1, .int .i64 (Dl.size d.data.toList).2]) ∧ Below w.heap.size w w' := by
  go_enter Try.func52, Try.ntmps52
  go_wp2_with fail
  refine (head_any _ hd _).mono ?_
  rintro e w1 ⟨rfl, hb1⟩
  rcases headN_cases d.data.toList with ⟨g1, g2⟩ | ⟨b, t, r, g1, hb, ht, hr, g2⟩
  · have HE := Lib.hid (show Dl.size d.data.toList = (0, 2) by rw [Dl.size, g1])
    rw [g2]
    clear g1 g2
    go_wp2
    go_ret2
    exact ⟨by rw [HE.out]; rfl, hb1⟩
  · rw [g2]
    clear g2
    by_cases hlt : 2147483647 < t
    · have HE := Lib.hid (show Dl.size d.data.toList = (0, 2) by rw [Dl.size, g1]; simp only; rw [if_pos hlt])
      clear g1 hr
      go_wp2
      go_ret2
      exact ⟨by rw [HE.out]; rfl, hb1⟩
    · have HE := Lib.hid (show Dl.size d.data.toList = (t, 0) by rw [Dl.size, g1]; simp only; rw [if_neg hlt])
      clear g1 hr
      go_wp2
      go_ret2
      exact ⟨by rw [HE.out]; rfl, hb1⟩

/-- what step gives -/
def stepN (base d : List UInt8) : List UInt8 × List UInt8 := (Dl.step base d).getD ([], [])

theorem ret_ss {b c b' c' : ByteArray} (h : b.data.toList = c.data.toList) (h' : b'.data.toList = c'.data.toList) :
    Ending.returned (.tuple #[.string b, .string b']) = .returned (.tuple #[.string c, .string c']) := by
  have e : b = c := by rw [← Lib.mk_data b, ← Lib.mk_data c, h]
  have e' : b' = c' := by rw [← Lib.mk_data b', ← Lib.mk_data c', h']
  rw [e, e']

set_option maxRecDepth 100000 in
set_option maxHeartbeats 1000000 in
theorem step_any (base d : ByteArray) (hbs : base.size ≤ 9223372036854775807) (hd : d.size ≤ 9223372036854775807) (w : World) :
    Calls Try.prog 72 #[.string base, .string d] w fun e w' => e = .returned (.tuple #[.string ⟨(stepN base.data.toList d.data.toList).1.toArray⟩, .string ⟨(stepN base.data.toList d.data.toList).2.toArray⟩]) ∧ Below w.heap.size w w' := by
  have hbl : base.data.toList.length = base.size := by simp
  have hdl : d.data.toList.length = d.size := by simp
  go_enter Try.func72, Try.ntmps72
  go_wp2_with fail
  refine (get_any _ hd _).mono ?_
  rintro e w1 ⟨rfl, hb1⟩
  rcases getN_cases d.data.toList with ⟨g1, g2⟩ | ⟨n, r, g1, hn, hr, g2⟩
  · have HE := Lib.hid (show stepN base.data.toList d.data.toList = ([], []) by rw [stepN, Dl.step, g1]; rfl)
    rw [g2]
    clear g1 g2 hbl hdl
    go_wp2
    go_ret2
    exact ⟨by rw [HE.out]; rfl, hb1⟩
  · rw [g2]
    clear g2
    by_cases hm : n / 2 = 0
    · have HE := Lib.hid (show stepN base.data.toList d.data.toList = ([], []) by rw [stepN, Dl.step, g1]; simp only; rw [if_pos hm]; rfl)
      have hm' : ((n : Int) / 2 == 0) = true := by simp; omega
      clear g1 hbl hdl hr hm
      go_wp2
      go_ret2
      exact ⟨by rw [HE.out]; rfl, hb1⟩
    · have hm' : ((n : Int) / 2 == 0) = false := by simp; omega
      obtain ⟨R, HR⟩ : ∃ R : ByteArray, Hid (R = ⟨r.toArray⟩) := ⟨_, rfl⟩
      have hRs : R.size = r.length := by rw [HR.out, size_mk]
      have HRd : Hid (R.data.toList = r) := by show _ = _; rw [HR.out]
      simp only
      rw [← HR.out]
      have hR63 : R.size ≤ 9223372036854775807 := by omega
      by_cases hev : n % 2 = 0
      · have hev' : ((n : Int) % 2 == 0) = true := by simp; omega
        by_cases hlt : r.length < n / 2
        · have HE := Lib.hid (show stepN base.data.toList d.data.toList = ([], []) by rw [stepN, Dl.step, g1]; simp only; rw [if_neg hm, if_pos hev, if_pos hlt]; rfl)
          have hlt' : (R.size : Int) < (n : Int) / 2 := by omega
          clear g1 hbl hdl hr hm hev hRs hlt
          go_wp2
          go_ret2
          exact ⟨by rw [HE.out]; rfl, hb1⟩
        · have HE := Lib.hid (show stepN base.data.toList d.data.toList = (r.take (n / 2), r.drop (n / 2)) by rw [stepN, Dl.step, g1]; simp only; rw [if_neg hm, if_pos hev, if_neg hlt]; rfl)
          have hlt' : (n : Int) / 2 ≤ (R.size : Int) := by omega
          clear g1 hbl hdl hr hm hev hRs hlt
          go_wp2
          go_region
          go_wp2
          go_ret2
          refine ⟨ret_ss ?_ ?_, hb1.drew⟩
          · rw [Lib.extract_data, HE.out, HRd.out]; simp
          · rw [Lib.extract_data, HE.out, HRd.out]; exact List.take_of_length_le (by rw [List.length_drop, ← HRd.out]; simp)
      · have hev' : ((n : Int) % 2 == 0) = false := by simp; omega
        go_wp2_with fail
        refine (get_any _ hR63 _).mono ?_
        rintro e w2 ⟨rfl, hb2⟩
        rw [HRd.out]
        rcases getN_cases r with ⟨g3, g4⟩ | ⟨a, r2, g3, ha, hr2, g4⟩
        · have HE := Lib.hid (show stepN base.data.toList d.data.toList = ([], []) by rw [stepN, Dl.step, g1]; simp only; rw [if_neg hm, if_neg hev, g3]; rfl)
          rw [g4]
          clear g1 g3 g4 hbl hdl hr hm hev hRs
          go_wp2
          go_ret2
          exact ⟨by rw [HE.out]; rfl, bnext hb1 hb2⟩
        · rw [g4]
          clear g4
          by_cases hl1 : base.size < a
          · have HE := Lib.hid (show stepN base.data.toList d.data.toList = ([], []) by rw [stepN, Dl.step, g1]; simp only; rw [if_neg hm, if_neg hev, g3]; simp only; rw [if_pos (by omega)]; rfl)
            clear g1 g3 hbl hdl hr hr2 hm hev hRs
            go_wp2
            go_ret2
            exact ⟨by rw [HE.out]; rfl, bnext hb1 hb2⟩
          · by_cases hl2 : base.size - a < n / 2
            · have HE := Lib.hid (show stepN base.data.toList d.data.toList = ([], []) by rw [stepN, Dl.step, g1]; simp only; rw [if_neg hm, if_neg hev, g3]; simp only; rw [if_neg (by omega), if_pos (by omega)]; rfl)
              have hl2' : (base.size : Int) - (a : Int) < (n : Int) / 2 := by omega
              clear g1 g3 hbl hdl hr hr2 hm hev hRs
              go_wp2
              go_ret2
              exact ⟨by rw [HE.out]; rfl, bnext hb1 hb2⟩
            · have HE := Lib.hid (show stepN base.data.toList d.data.toList = ((base.data.toList.drop a).take (n / 2), r2) by rw [stepN, Dl.step, g1]; simp only; rw [if_neg hm, if_neg hev, g3]; simp only; rw [if_neg (by omega), if_neg (by omega)]; rfl)
              have hl2' : (n : Int) / 2 ≤ (base.size : Int) - (a : Int) := by omega
              have hl3 : (a : Int) + (n : Int) / 2 ≤ (base.size : Int) := by omega
              clear g1 g3 hbl hdl hr hr2 hm hev hRs
              go_wp2
              go_ret2
              refine ⟨ret_ss ?_ ?_, bnext hb1 hb2⟩
              · rw [Lib.extract_data, HE.out]; simp
              · rw [HE.out]
end Go.Proofs.Ytominjooffecnaa.WDl
