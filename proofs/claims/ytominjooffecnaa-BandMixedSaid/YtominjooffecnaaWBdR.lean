/- What layer 8's reference computes at Put. -/
import Derived.Test.YtominjooffecnaaWBdP
namespace Go.Proofs.Ytominjooffecnaa.WBd
open Go.RowKit Kn WPk

set_option maxRecDepth 100000 in
set_option maxHeartbeats 2000000 in
theorem putR_good (c : Int) (s : ByteArray) (m : Nat) (w : World) (hc1 : 1 ≤ c) (hc3 : c ≤ 3) (hm1 : 1 ≤ m) (hm : m ≤ 999) (hs : s.size ≤ 100000) :
    Calls Try.prog 20 #[.int .i64 c, .string s, .int .i64 m] w fun e w' => ∃ v, e = .returned (.tuple #[v, .bool true]) ∧ w'.ownsRow w.heap.size 67 2 v (Bd.cut (toU8 c) m [] s.data.toList).length (lnsV (Bd.cut (toU8 c) m [] s.data.toList)) ∧ Below w.heap.size w w' := by
  obtain ⟨i67, hi, hz, hs2, hb⟩ := info_parts info67
  have hwc : IntKind.u8.wrap c = c := by rw [IntKind.wrap_u8]; omega
  have hcv := fun W : World => conv1 c (by omega) (by omega) W
  have hwm : IntKind.i64.wrap (1 + (m : Int)) = 1 + (m : Int) := by rw [IntKind.wrap_i64]; omega
  go_enter Try.func20, Try.ntmps20
  go_wp2
  go_loopw [8, 9, 10] (fun v a iv wr => ∃ (cur : ByteArray) (p : List UInt8) (out : List Pkt.Ln) (k : Nat), iv = .int .i64 k ∧ a = .string cur ∧ k ≤ s.size ∧ cur.size = 1 + p.length ∧ p.length < m ∧ out.length ≤ k ∧ wr.ownsRow w.heap.size 67 2 v out.length (lnsV out) ∧ Below w.heap.size w wr ∧
      Hid (cur.data.toList = toU8 c :: p ∧ (k = s.size → p = []) ∧ Bd.cut (toU8 c) m [] s.data.toList = out ++ Bd.cut (toU8 c) m p (s.data.toList.drop k))) (fun _ _ iv _ => s.size - (intOf iv).toNat)
  case atStart =>
    exact ⟨⟨#[toU8 c]⟩, [], [], 0, rfl, rfl, Nat.zero_le _, rfl, by simp; omega, Nat.le_refl _, World.ownsRow_nil _ _ _ _, balloc (Below.refl _ _) _, rfl, fun _ => rfl, by simp⟩
  case round =>
    obtain ⟨cur, p, out, k, rfl, rfl, hk, hcs, hpm, hok, hown, hbel, HE⟩ := hrel
    by_cases hlt : k < s.size
    · have hlt' : (k : Int) < (s.size : Int) := by omega
      have hk0 : (0 : Int) ≤ (k : Int) := by omega
      have hwk : IntKind.i64.wrap ((k : Int) + 1) = (k : Int) + 1 := by rw [IntKind.wrap_i64]; omega
      have hws : IntKind.i64.wrap ((s.size : Int) - 1) = (s.size : Int) - 1 := by rw [IntKind.wrap_i64]; omega
      have hmin : min (k + 1) s.size - k = 1 := by omega
      have hk1 : k < s.data.toList.length := by simpa using hlt
      have hd : s.data.toList.drop k = s[k] :: s.data.toList.drop (k + 1) := List.drop_eq_getElem_cons hk1
      have hcd : (cur ++ s.extract k (k + 1)).data.toList = toU8 c :: (p ++ [s[k]]) := by
        rw [cat_data, Lib.extract_data, HE.out.1, hd, Nat.add_sub_cancel_left]; simp
      have HC := Lib.hid hcd
      have HD := Lib.hid hd
      clear hcd hd
      by_cases hfull : p.length + 1 = m
      · have HF : Hid (Bd.cut (toU8 c) m [] s.data.toList = (out ++ [⟨0, (cur ++ s.extract k (k + 1)).data.toList⟩]) ++ Bd.cut (toU8 c) m [] (s.data.toList.drop (k + 1))) := by
          show _ = _
          rw [HE.out.2.2, HD.out, HC.out, Bd.cut, if_pos hfull]; simp
        have hfA : (1 + (p.length : Int) + 1 == 1 + (m : Int)) = true := by simp; omega
        go_wp2_with (at_builtin; refine wpList_append_newH _ _ rfl _ _ 27 rfl w.heap.size 67 i67 _ 2 24 Try.underlying27 hi hz hs2 hb rfl (by decide) _ _ _ hown rfl 1 wr.heap.size rfl rfl rfl rfl (by unfold maxLen; omega) (by omega) hbel.size ?_)
        intro v' w2 hown2 hgrow _
        have hbel2 : Below w.heap.size w w2 := hbel.grown hgrow hbel.size (ownBlock_ge hown)
        clear hown hgrow hbel
        go_wp2
        go_roundw
        case rel =>
          refine ⟨⟨#[toU8 c]⟩, [], out ++ [⟨0, (cur ++ s.extract k (k + 1)).data.toList⟩], k + 1, by go_num, rfl, by omega, rfl, by simp; omega, by simp; omega, ?_, balloc hbel2 _, rfl, fun _ => rfl, HF.out⟩
          rw [List.length_append, lnsV_append]
          exact hown2.alloc _
        case measure => simp [intOf]; omega
      · by_cases hlast : k + 1 = s.size
        · have HF : Hid (Bd.cut (toU8 c) m [] s.data.toList = (out ++ [⟨0, (cur ++ s.extract k (k + 1)).data.toList⟩]) ++ Bd.cut (toU8 c) m [] (s.data.toList.drop (k + 1))) := by
            show _ = _
            have e : s.data.toList.drop (k + 1) = [] := List.drop_of_length_le (by simp; omega)
            rw [HE.out.2.2, HD.out, HC.out, e, Bd.cut_last, Bd.cut_nil]; simp
          have hfA : (1 + (p.length : Int) + 1 == 1 + (m : Int)) = false := by simp; omega
          have hfB : ((k : Int) == (s.size : Int) - 1) = true := by simp; omega
          clear hlast
          go_wp2_with (at_builtin; refine wpList_append_newH _ _ rfl _ _ 27 rfl w.heap.size 67 i67 _ 2 24 Try.underlying27 hi hz hs2 hb rfl (by decide) _ _ _ hown rfl 1 wr.heap.size rfl rfl rfl rfl (by unfold maxLen; omega) (by omega) hbel.size ?_)
          intro v' w2 hown2 hgrow _
          have hbel2 : Below w.heap.size w w2 := hbel.grown hgrow hbel.size (ownBlock_ge hown)
          clear hown hgrow hbel
          go_wp2
          go_roundw
          case rel =>
            refine ⟨⟨#[toU8 c]⟩, [], out ++ [⟨0, (cur ++ s.extract k (k + 1)).data.toList⟩], k + 1, by go_num, rfl, by omega, rfl, by simp; omega, by simp; omega, ?_, balloc hbel2 _, rfl, fun _ => rfl, HF.out⟩
            rw [List.length_append, lnsV_append]
            exact hown2.alloc _
          case measure => simp [intOf]; omega
        · have HF : Hid (Bd.cut (toU8 c) m [] s.data.toList = out ++ Bd.cut (toU8 c) m (p ++ [s[k]]) (s.data.toList.drop (k + 1))) := by
            show _ = _
            rw [HE.out.2.2, HD.out, Bd.cut, if_neg hfull]
          have hfA : (1 + (p.length : Int) + 1 == 1 + (m : Int)) = false := by simp; omega
          have hfB : ((k : Int) == (s.size : Int) - 1) = false := by simp; omega
          go_wp2
          go_roundw
          case rel =>
            refine ⟨_, p ++ [s[k]], out, k + 1, by go_num, rfl, by omega, by simp [hmin, hcs]; omega, by simp; omega, by omega, hown, hbel, HC.out, fun h => absurd h hlast, HF.out⟩
          case measure => simp [intOf]; omega
    · obtain rfl : k = s.size := by omega
      have HF : Hid (Bd.cut (toU8 c) m [] s.data.toList = out) := by
        show _ = _
        rw [HE.out.2.2, HE.out.2.1 rfl, List.drop_of_length_le (by simp), Bd.cut_nil, List.append_nil]
      obtain ⟨A, cc, rfl, _, _⟩ := own_slice hown
      clear HE hcv
      go_wp2
      go_ret2
      refine ⟨_, rfl, ?_, hbel⟩
      rw [HF.out]
      exact hown

set_option maxRecDepth 100000 in
theorem putR_bad (c : Int) (s : ByteArray) (m : Int) (w : World) (h : c < 1 ∨ 3 < c ∨ m < 1 ∨ 1000 ≤ m) :
    Calls Try.prog 20 #[.int .i64 c, .string s, .int .i64 m] w fun e w' => e = .returned (.tuple #[.slice none 0 0, .bool false]) ∧ Below w.heap.size w w' := by
  go_enter Try.func20, Try.ntmps20
  go_wp2
  all_goals
    go_ret2
    exact ⟨rfl, Below.refl _ _⟩
end Go.Proofs.Ytominjooffecnaa.WBd
