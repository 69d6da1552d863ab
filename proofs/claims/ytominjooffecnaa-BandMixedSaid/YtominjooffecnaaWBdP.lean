/- What layer 8's Put computes. -/
import Derived.Test.YtominjooffecnaaPBd
import Derived.Test.YtominjooffecnaaWPkC
import Derived.Lib.MinMax
namespace Go.Proofs.Ytominjooffecnaa.WBd
open Go.RowKit Kn WPk

theorem ext_take (s : ByteArray) (q : Nat) : (s.extract 0 q).data.toList = s.data.toList.take q := by
  have := Lib.extract_toList s 0 q
  rw [Lib.toList_data] at this
  rw [this]; simp
theorem ext_drop (s : ByteArray) (q : Nat) : (s.extract q s.size).data.toList = s.data.toList.drop q := by
  rw [Lib.extract_data]
  apply List.take_of_length_le
  simp

set_option maxRecDepth 100000 in
set_option maxHeartbeats 2000000 in
theorem put_good (c : Int) (s : ByteArray) (m : Nat) (w : World) (hc1 : 1 ≤ c) (hc3 : c ≤ 3) (hm1 : 1 ≤ m) (hm : m ≤ 999) (hs : s.size ≤ 100000) :
    Calls Try.prog 19 #[.int .i64 c, .string s, .int .i64 m] w fun e w' => ∃ v, e = .returned (.tuple #[v, .int .i64 0]) ∧ w'.ownsRow w.heap.size 34 2 v (Bd.cut (toU8 c) m [] s.data.toList).length (lnsV (Bd.cut (toU8 c) m [] s.data.toList)) ∧ Below w.heap.size w w' := by
  obtain ⟨i34, hi, hz, hs2, hb⟩ := info_parts info34
  have hwc : IntKind.u8.wrap c = c := by rw [IntKind.wrap_u8]; omega
  have hcv := fun W : World => conv1_drew c (by omega) (by omega) W
  go_enter Try.func19, Try.ntmps19
  go_wp2
  go_loopw [1, 8] (fun a v wr => ∃ (R : ByteArray) (out : List Pkt.Ln), a = .string R ∧ out.length + R.size ≤ 100000 ∧ wr.ownsRow w.heap.size 34 2 v out.length (lnsV out) ∧ Below w.heap.size w wr ∧
      Hid (Bd.cut (toU8 c) m [] s.data.toList = out ++ Bd.cut (toU8 c) m [] R.data.toList)) (fun a _ _ => lenOf a)
  case atStart =>
    exact ⟨s, [], rfl, by simpa using hs, World.ownsRow_nil _ _ _ _, Below.refl _ _, rfl⟩
  case round =>
    obtain ⟨R, out, rfl, hbd, hown, hbel, HE⟩ := hrel
    by_cases hR : R = ⟨#[]⟩
    · subst hR
      have HE2 := Lib.hid (show Bd.cut (toU8 c) m [] s.data.toList = out by rw [HE.out, show (⟨#[]⟩ : ByteArray).data.toList = [] from rfl, Bd.cut_nil, List.append_nil])
      obtain ⟨A, cc, rfl, _, _⟩ := own_slice hown
      clear HE hcv
      go_wp2
      go_ret2
      refine ⟨_, rfl, ?_, hbel⟩
      rw [HE2.out]
      exact hown
    · obtain ⟨hRn, hRne⟩ := ne_empty hR
      have hRl : R.data.toList.length = R.size := by simp
      have hR0 : 0 < R.size := by rw [← hRl]; exact List.length_pos_iff.2 hRn
      obtain ⟨q, hq, hq1, hq2, hqm⟩ : ∃ q : Nat, min (m : Int) (R.size : Int) = (q : Int) ∧ 1 ≤ q ∧ q ≤ R.size ∧ q = min m R.size := ⟨min m R.size, by omega, by omega, by omega, rfl⟩
      have HE3 : Hid (Bd.cut (toU8 c) m [] s.data.toList = (out ++ [⟨0, toU8 c :: (R.extract 0 q).data.toList⟩]) ++ Bd.cut (toU8 c) m [] (R.extract q R.size).data.toList) := by
        show _ = _
        rw [HE.out, Bd.cut_step _ _ _ (by omega) hRn, ext_take, ext_drop]
        have e1 : R.data.toList.take q = R.data.toList.take m := by
          rw [hqm, ← hRl, ← List.take_take, List.take_length]
        have e2 : R.data.toList.drop q = R.data.toList.drop m := by
          by_cases h : m ≤ R.size
          · rw [hqm, Nat.min_eq_left h]
          · rw [List.drop_of_length_le (by omega), List.drop_of_length_le (by omega)]
        rw [e1, e2]; simp
      have hq0 : (0 : Int) ≤ (q : Int) := by omega
      have hq2' : (q : Int) ≤ (R.size : Int) := by omega
      have HQM := Lib.hid hqm
      have hq9 : (9223372036854775807 < 1 + q) = False := by simp; omega
      clear hR hRn HE hqm
      go_wp2
      go_region_law (refine step_append_new _ rfl (.tmp 30) (.tmp 40) 23 rfl w.heap.size 34 i34 _ 2 24 Try.underlying23 hi hz hs2 hb rfl (by decide) _ _ _ (hown.alloc _) (by simp [Act.eval]) 1 (by simp [Act.eval]) rfl rfl (by unfold maxLen; omega) (by omega) (by have := hbel.size; simp; omega) ?_; intro v' w1 hown' hgrow)
      all_goals
        have hbel' : Below w.heap.size w w1 := (balloc hbel (.cells #[.int .u8 c] 5)).grown hgrow (by have := hbel.size; simp; omega) (ownBlock_ge hown)
        go_wp2
        go_roundw
        case rel =>
          refine ⟨R.extract q R.size, out ++ [⟨0, toU8 c :: (R.extract 0 q).data.toList⟩], rfl, by simp; omega, ?_, hbel', HE3⟩
          rw [List.length_append, lnsV_append]
          have e : (⟨#[toU8 c]⟩ : ByteArray) ++ R.extract 0 q = ⟨(toU8 c :: (R.extract 0 q).data.toList).toArray⟩ := by rw [cat_eq]; rfl
          rw [e] at hown'
          exact hown'
        case measure => simp [lenOf]; omega

set_option maxRecDepth 100000 in
theorem put_bad (c : Int) (s : ByteArray) (m : Int) (w : World) (h : c < 1 ∨ 3 < c ∨ m < 1 ∨ 1000 ≤ m) :
    Calls Try.prog 19 #[.int .i64 c, .string s, .int .i64 m] w fun e w' => e = .returned (.tuple #[.slice none 0 0, .int .i64 1]) ∧ Below w.heap.size w w' := by
  go_enter Try.func19, Try.ntmps19
  go_wp2
  all_goals
    go_ret2
    exact ⟨rfl, Below.refl _ _⟩
end Go.Proofs.Ytominjooffecnaa.WBd
