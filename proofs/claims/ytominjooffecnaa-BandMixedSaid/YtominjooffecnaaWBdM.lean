/- The walk of the law BandMixed. -/
import Derived.Test.YtominjooffecnaaPBdM
import Derived.Test.YtominjooffecnaaWBdA
namespace Go.Proofs.Ytominjooffecnaa.WBd
open Go.RowKit Kn WPk

/-- a slice of truths reads as T -/
def Bs (w : World) (A : Option Addr) (T : List Bool) : Prop :=
  T = [] ∨ ∃ b off, A = some ⟨b, off, none⟩ ∧ b < w.heap.size ∧ ∀ i (h : i < T.length), w.cell? ⟨b, off + i, none⟩ = some (.bool T[i])
theorem Bs.below {w w' : World} {A : Option Addr} {T : List Bool} (h : Bs w A T) (hb : Below w.heap.size w w') : Bs w' A T := by
  rcases h with h | ⟨b, off, hA, hlt, hc⟩
  · exact .inl h
  · refine .inr ⟨b, off, hA, Nat.lt_of_lt_of_le hlt hb.size, fun i hi => ?_⟩
    rw [hb.cell (p := ⟨b, off + i, none⟩) hlt]
    exact hc i hi
theorem get_anyN (A : Option Addr) (cap : Nat) (L : List Pkt.Ln) (w : World) (N : Nat) (hN : N = L.length) (hL : N ≤ 10000) (hcap : N ≤ cap) (hcm : cap ≤ 9223372036854775807) (hp : Pk w A L) (hload : ∀ i, (h : i < L.length) → (L[i]).load.length ≤ 5000) :
    Calls Try.prog 23 #[.slice A N cap] w fun e w' => e = .returned (.tuple #[.string ⟨(getN L).1.toArray⟩, .string ⟨(getN L).2.1.toArray⟩, .int .i64 (getN L).2.2]) ∧ Below w.heap.size w w' := by
  subst hN
  exact get_any A cap L w hL hcap hcm hp hload
theorem lns_one (L : List Pkt.Ln) : ∀ u ∈ lnsV L, u.oneCell' = true := by
  intro u hu
  rw [lnsV, List.mem_flatMap] at hu
  obtain ⟨p, _, h⟩ := hu
  simp at h
  rcases h with rfl | rfl <;> rfl
theorem strs (s : ByteArray) : (⟨s.data.toList.toArray⟩ : ByteArray) = s := Lib.mk_data s
theorem s_no : (⟨#[110, 111]⟩ : ByteArray).data.toList = [110, 111] := rfl

set_option maxRecDepth 100000 in
set_option maxHeartbeats 4000000 in
theorem mixed_big (a b : ByteArray) (n : Int) (A : Option Addr) (cap : Nat) (T : List Bool) (w : World) (_ha : a.size ≤ maxLen) (_hb : b.size ≤ maxLen) (_hT : T.length ≤ cap) (_hcm : cap ≤ maxLen) (h : 1500 < a.size ∨ 1500 < b.size ∨ 200 < T.length) :
    Calls Try.prog 5 #[.agg #[.string a, .string b, .int .i64 n, .slice A T.length cap]] w fun e w' => e = .returned (.bool true) ∧ Below w.heap.size w w' := by
  unfold maxLen at *
  by_cases h1 : 1500 < a.size
  · clear h
    go_enter Try.func5, Try.ntmps5
    go_wp2_with fail
    refine (knows_any _).mono ?_
    rintro e w2 ⟨rfl, hb2⟩
    have hB2 := bnext (balloc (Below.refl _ w) _) hb2
    go_wp2
    go_ret
    exact ⟨rfl, hB2⟩
  · by_cases h2 : 1500 < b.size
    · clear h
      go_enter Try.func5, Try.ntmps5
      go_wp2_with fail
      refine (knows_any _).mono ?_
      rintro e w2 ⟨rfl, hb2⟩
      have hB2 := bnext (balloc (Below.refl _ w) _) hb2
      go_wp2
      go_ret
      exact ⟨rfl, hB2⟩
    · have h3 : 200 < T.length := by omega
      clear h
      go_enter Try.func5, Try.ntmps5
      go_wp2_with fail
      refine (knows_any _).mono ?_
      rintro e w2 ⟨rfl, hb2⟩
      have hB2 := bnext (balloc (Below.refl _ w) _) hb2
      go_wp2
      go_ret
      exact ⟨rfl, hB2⟩

set_option maxRecDepth 100000 in
set_option maxHeartbeats 4000000 in
theorem mixed_bad (a b : ByteArray) (n : Int) (A : Option Addr) (cap : Nat) (T : List Bool) (w : World) (ha : a.size ≤ 1500) (hb : b.size ≤ 1500) (hT : T.length ≤ 200) (hn : n < 1 ∨ 1000 ≤ n) :
    Calls Try.prog 5 #[.agg #[.string a, .string b, .int .i64 n, .slice A T.length cap]] w fun e w' => e = .returned (.bool true) ∧ Below w.heap.size w w' := by
  have HN : Hid ((1 : Int) < 1 ∨ (3 : Int) < 1 ∨ n < 1 ∨ 1000 ≤ n) := Lib.hid (by omega)
  have HN2 : Hid ((2 : Int) < 1 ∨ (3 : Int) < 2 ∨ n < 1 ∨ 1000 ≤ n) := Lib.hid (by omega)
  go_enter Try.func5, Try.ntmps5
  go_wp2_with fail
  refine (put_bad 1 a n _ HN.out).mono ?_
  rintro e w1 ⟨rfl, hb1⟩
  have hB1 := bnext (balloc (Below.refl _ w) _) hb1
  have hc1 : w1.cell? ⟨w.heap.size, 1, none⟩ = some (.string b) := by
    rw [hb1.cell (p := ⟨w.heap.size, 1, none⟩) (by simp)]
    simp
  clear hb1
  go_wp2_with fail
  refine (put_bad 2 b n _ HN2.out).mono ?_
  rintro e w2 ⟨rfl, hb2⟩
  have hB2 := bnext hB1 hb2
  clear hb2 hB1 hc1
  go_wp2_with fail
  refine (knows_any _).mono ?_
  rintro e w3 ⟨rfl, hb3⟩
  have hB3 := bnext hB2 hb3
  have hdn : (decide (n < 1) || decide (999 < n)) = true := by simp; omega
  clear hn
  go_wp2
  all_goals
    go_ret
    exact ⟨rfl, hB3⟩

set_option maxRecDepth 100000 in
set_option maxHeartbeats 8000000 in
theorem mixed_good (a b : ByteArray) (n : Nat) (A : Option Addr) (cap : Nat) (T : List Bool) (w : World) (ha : a.size ≤ 1500) (hb : b.size ≤ 1500) (hT : T.length ≤ 200) (hTc : T.length ≤ cap) (hcm : cap ≤ maxLen) (hbs : Bs w A T) (hn1 : 1 ≤ n) (hn9 : n ≤ 999) :
    Calls Try.prog 5 #[.agg #[.string a, .string b, .int .i64 n, .slice A T.length cap]] w fun e w' => e = .returned (.bool true) ∧ Below w.heap.size w w' := by
  obtain ⟨i34, hi34, hz34, hs34, hb34⟩ := info_parts info34
  unfold maxLen at hcm
  have HO1 : Hid (One 1 (Bd.cut (toU8 1) n [] a.data.toList)) := one_cut 1 n _ (by decide) (by decide) hn1 hn9
  have HO2 : Hid (One 2 (Bd.cut (toU8 2) n [] b.data.toList)) := one_cut 2 n _ (by decide) (by decide) hn1 hn9
  have HO3 : Hid (One 3 (Bd.cut (toU8 3) n [] [110, 111])) := one_cut 3 n _ (by decide) (by decide) hn1 hn9
  have HJ1 : Hid (strm 1 (Bd.cut (toU8 1) n [] a.data.toList) = a.data.toList) := by show _ = _; rw [one_same HO1.out, cut_join]; rfl
  have HJ2 : Hid (strm 2 (Bd.cut (toU8 2) n [] b.data.toList) = b.data.toList) := by show _ = _; rw [one_same HO2.out, cut_join]; rfl
  have HJ3 : Hid ((Bd.cut (toU8 3) n [] [110, 111]).flatMap (fun q => q.load.tail) ≠ []) := by show _ ≠ _; rw [cut_join]; simp
  have HL3 : Hid ((Bd.cut (toU8 3) n [] [110, 111]).length ≤ 2) := by
    have := Bd.cut_length (toU8 3) n [110, 111] []
    simp at this
    exact this
  have HL1 : Hid ((Bd.cut (toU8 1) n [] a.data.toList).length ≤ 1500) := by
    have := Bd.cut_length (toU8 1) n a.data.toList []
    simp at this
    exact Nat.le_trans this ha
  have HL2 : Hid ((Bd.cut (toU8 2) n [] b.data.toList).length ≤ 1500) := by
    have := Bd.cut_length (toU8 2) n b.data.toList []
    simp at this
    exact Nat.le_trans this hb
  go_enter Try.func5, Try.ntmps5
  go_wp2_with fail
  refine (put_good 1 a n _ (by decide) (by decide) hn1 hn9 (by omega)).mono ?_
  rintro e w1 ⟨v1, rfl, hown1, hb1⟩
  have hB1 := bnext (balloc (Below.refl _ w) _) hb1
  have hwh : w.heap.size < w1.heap.size := by have := hb1.size; simp at this; omega
  have hrow : w1.heap[w.heap.size]? = some (.cells #[.string a, .string b, .int .i64 n, .slice A T.length cap] 42 (0, 0)) := by
    rw [hb1.block _ (by simp)]
    exact heap_alloc_new w _
  obtain ⟨A1, k1, rfl, hk11, hk12⟩ := own_slice hown1
  have p1 := (pk_own hown1).2
  have hc1 : w1.cell? ⟨w.heap.size, 1, none⟩ = some (.string b) := by rw [cell_of_row _ _ 1 _ _ _ hrow]; rfl
  clear hb1 hown1
  go_wp2_with fail
  refine (put_good 2 b n _ (by decide) (by decide) hn1 hn9 (by omega)).mono ?_
  rintro e w2 ⟨v2, rfl, hown2, hb2⟩
  have hB2 := bnext hB1 hb2
  have hwh2 : w.heap.size < w2.heap.size := by have := hb2.size; omega
  have hrow2 : w2.heap[w.heap.size]? = some (.cells #[.string a, .string b, .int .i64 n, .slice A T.length cap] 42 (0, 0)) := by
    rw [hb2.block _ hwh]
    exact hrow
  obtain ⟨A2, k2, rfl, hk21, hk22⟩ := own_slice hown2
  have p2 := (pk_own hown2).2
  have p1' := p1.below hb2
  have hbs2 := hbs.below hB2
  clear hb2 hown2 hB1 hc1 p1 hrow hbs hwh
  unfold maxLen at hk12 hk22
  have hL1 := HL1.out
  have hL2 := HL2.out
  generalize Bd.cut (toU8 1) n [] a.data.toList = L1 at *
  generalize Bd.cut (toU8 2) n [] b.data.toList = L2 at *
  have HR := Lib.hid hrow2
  clear hrow2
  go_wp2
  go_loopw [9, 10, 11, 12] (fun v iv jv kv wr => ∃ (M : List Pkt.Ln) (i j : Nat), i ≤ L1.length ∧ j ≤ L2.length ∧ iv = .int .i64 i ∧ jv = .int .i64 j ∧ kv = .int .i64 (i + j : Nat) ∧
      wr.ownsRow w2.heap.size 34 2 v (i + j) (lnsV M) ∧ Below w2.heap.size w2 wr ∧ Hid (Mxd L1 L2 M i j)) (fun _ iv jv _ _ => (L1.length - (intOf iv).toNat) + (L2.length - (intOf jv).toNat))
  case atStart =>
    exact ⟨[], 0, 0, Nat.zero_le _, Nat.zero_le _, rfl, rfl, rfl, World.ownsRow_nil _ _ _ _, Below.refl _ _, mxd_nil _ _⟩
  case round =>
    obtain ⟨M, i, j, hil, hjl, rfl, rfl, rfl, hown, hbel, HM⟩ := hrel
    have q1 := p1'.below hbel
    have q2 := p2.below hbel
    have q3 := hbs2.below hbel
    have hi0 : (0 : Int) ≤ (i : Int) := by omega
    have hj0 : (0 : Int) ≤ (j : Int) := by omega
    by_cases hj : j < L2.length
    · rcases q2 with h0 | ⟨b2, off2, rfl, hbw2, hcc2⟩
      · rw [h0] at hj; simp at hj
      obtain ⟨y1, y2⟩ := hcc2 j hj
      have hj' : (j : Int) < (L2.length : Int) := by omega
      clear hcc2
      by_cases hi : i < L1.length
      · rcases q1 with h0 | ⟨b1, off1, rfl, hbw1, hcc1⟩
        · rw [h0] at hi; simp at hi
        obtain ⟨x1, x2⟩ := hcc1 i hi
        have hi' : (i : Int) < (L1.length : Int) := by omega
        clear hcc1
        by_cases hk : i + j < T.length
        · rcases q3 with h0 | ⟨b3, off3, rfl, hbw3, hcc3⟩
          · rw [h0] at hk; simp at hk
          have z1 := hcc3 (i + j) hk
          have hk' : ((i + j : Nat) : Int) < (T.length : Int) := by omega
          have hk0 : (0 : Int) ≤ ((i + j : Nat) : Int) := by omega
          clear hcc3
          cases hT' : T[i + j]
          · rw [hT'] at z1
            clear hT'
            go_wp2_with (at_builtin; refine wpList_append_new _ _ rfl (.tmp 126) (.tmp 131) 23 rfl w2.heap.size 34 i34 _ 2 24 Try.underlying23 hi34 hz34 hs34 hb34 rfl (by decide) _ _ _ hown rfl 1 rfl rfl rfl (by unfold maxLen; omega) (by omega) hbel.size ?_)
            intro v' w1 hown' hgrow _
            have hbel' := hbel.grown hgrow hbel.size (ownBlock_ge hown)
            have HN : Hid (Mxd L1 L2 (M ++ [L2[j]]) i (j + 1)) := mxd_two HM.out HO2.out hj
            have e : lnsV (M ++ [L2[j]]) = lnsV M ++ [.int .i64 L2[j].kind, .string ⟨L2[j].load.toArray⟩] := by rw [lnsV_append]; rfl
            clear hown hgrow hbel HM
            go_wp2
            go_roundw
            case rel =>
              refine ⟨M ++ [L2[j]], i, j + 1, by omega, by omega, by go_num, by go_num, by go_num, ?_, hbel', HN⟩
              rw [e]
              exact hown'
            case measure => simp [intOf]; omega
          · rw [hT'] at z1
            clear hT'
            go_wp2_with (at_builtin; refine wpList_append_new _ _ rfl (.tmp 117) (.tmp 122) 23 rfl w2.heap.size 34 i34 _ 2 24 Try.underlying23 hi34 hz34 hs34 hb34 rfl (by decide) _ _ _ hown rfl 1 rfl rfl rfl (by unfold maxLen; omega) (by omega) hbel.size ?_)
            intro v' w1 hown' hgrow _
            have hbel' := hbel.grown hgrow hbel.size (ownBlock_ge hown)
            have HN : Hid (Mxd L1 L2 (M ++ [L1[i]]) (i + 1) j) := mxd_one HM.out HO1.out hi
            have e : lnsV (M ++ [L1[i]]) = lnsV M ++ [.int .i64 L1[i].kind, .string ⟨L1[i].load.toArray⟩] := by rw [lnsV_append]; rfl
            clear hown hgrow hbel HM
            go_wp2
            go_roundw
            case rel =>
              refine ⟨M ++ [L1[i]], i + 1, j, by omega, by omega, by go_num, by go_num, by go_num, ?_, hbel', HN⟩
              rw [e, show i + 1 + j = i + j + 1 from by omega]
              exact hown'
            case measure => simp [intOf]; omega
        · clear q3
          go_wp2_with (at_builtin; refine wpList_append_new _ _ rfl (.tmp 126) (.tmp 131) 23 rfl w2.heap.size 34 i34 _ 2 24 Try.underlying23 hi34 hz34 hs34 hb34 rfl (by decide) _ _ _ hown rfl 1 rfl rfl rfl (by unfold maxLen; omega) (by omega) hbel.size ?_)
          intro v' w1 hown' hgrow _
          have hbel' := hbel.grown hgrow hbel.size (ownBlock_ge hown)
          have HN : Hid (Mxd L1 L2 (M ++ [L2[j]]) i (j + 1)) := mxd_two HM.out HO2.out hj
          have e : lnsV (M ++ [L2[j]]) = lnsV M ++ [.int .i64 L2[j].kind, .string ⟨L2[j].load.toArray⟩] := by rw [lnsV_append]; rfl
          clear hown hgrow hbel HM
          go_wp2
          go_roundw
          case rel =>
            refine ⟨M ++ [L2[j]], i, j + 1, by omega, by omega, by go_num, by go_num, by go_num, ?_, hbel', HN⟩
            rw [e]
            exact hown'
          case measure => simp [intOf]; omega
      · obtain rfl : i = L1.length := by omega
        clear q1 q3
        go_wp2_with (at_builtin; refine wpList_append_new _ _ rfl (.tmp 126) (.tmp 131) 23 rfl w2.heap.size 34 i34 _ 2 24 Try.underlying23 hi34 hz34 hs34 hb34 rfl (by decide) _ _ _ hown rfl 1 rfl rfl rfl (by unfold maxLen; omega) (by omega) hbel.size ?_)
        intro v' w1 hown' hgrow _
        have hbel' := hbel.grown hgrow hbel.size (ownBlock_ge hown)
        have HN : Hid (Mxd L1 L2 (M ++ [L2[j]]) L1.length (j + 1)) := mxd_two HM.out HO2.out hj
        have e : lnsV (M ++ [L2[j]]) = lnsV M ++ [.int .i64 L2[j].kind, .string ⟨L2[j].load.toArray⟩] := by rw [lnsV_append]; rfl
        clear hown hgrow hbel HM
        go_wp2
        go_roundw
        case rel =>
          refine ⟨M ++ [L2[j]], L1.length, j + 1, by omega, by omega, by go_num, by go_num, by go_num, ?_, hbel', HN⟩
          rw [e]
          exact hown'
        case measure => simp [intOf]; omega
    · obtain rfl : j = L2.length := by omega
      by_cases hi : i < L1.length
      · rcases q1 with h0 | ⟨b1, off1, rfl, hbw1, hcc1⟩
        · rw [h0] at hi; simp at hi
        obtain ⟨x1, x2⟩ := hcc1 i hi
        have hi' : (i : Int) < (L1.length : Int) := by omega
        clear hcc1 q2 q3
        go_wp2_with (at_builtin; refine wpList_append_new _ _ rfl (.tmp 117) (.tmp 122) 23 rfl w2.heap.size 34 i34 _ 2 24 Try.underlying23 hi34 hz34 hs34 hb34 rfl (by decide) _ _ _ hown rfl 1 rfl rfl rfl (by unfold maxLen; omega) (by omega) hbel.size ?_)
        intro v' w1 hown' hgrow _
        have hbel' := hbel.grown hgrow hbel.size (ownBlock_ge hown)
        have HN : Hid (Mxd L1 L2 (M ++ [L1[i]]) (i + 1) L2.length) := mxd_one HM.out HO1.out hi
        have e : lnsV (M ++ [L1[i]]) = lnsV M ++ [.int .i64 L1[i].kind, .string ⟨L1[i].load.toArray⟩] := by rw [lnsV_append]; rfl
        clear hown hgrow hbel HM
        go_wp2
        go_roundw
        case rel =>
          refine ⟨M ++ [L1[i]], i + 1, L2.length, by omega, by omega, by go_num, by go_num, by go_num, ?_, hbel', HN⟩
          rw [e, show i + 1 + L2.length = i + L2.length + 1 from by omega]
          exact hown'
        case measure => simp [intOf]; omega
      · obtain rfl : i = L1.length := by omega
        clear q1 q2 q3 hi hj
        have hown0 := hown
        obtain ⟨A4, k4, rfl, hk41, hk42⟩ := own_slice hown
        obtain ⟨hML, pM⟩ := pk_own hown
        have HML := Lib.hid hML
        unfold maxLen at hk42
        have hld : Hid (∀ i, (hi : i < M.length) → (M[i]).load.length ≤ 5000) := ok_load HM.out.2.2.2.1
        have HG : Hid (getN M = (a.data.toList, b.data.toList, 0)) := mxd_get HM.out HJ1.out HJ2.out
        clear hML
        go_wp2_with fail
        refine (get_anyN A4 k4 M _ _ HML.out (by omega) hk41 hk42 pM hld.out).mono ?_
        rintro e w4 ⟨rfl, hb4⟩
        have hown4 := own_below hown0 hb4
        have hB4 := hbel.trans (hb4.mono hbel.size)
        rw [HG.out]
        simp only [strs]
        clear hb4 hown hown0 hbel pM hld
        go_wp2_with fail
        refine (put_good 3 ⟨#[110, 111]⟩ n _ (by decide) (by decide) hn1 hn9 (by decide)).mono ?_
        rintro e w5 ⟨v5, rfl, hown5, hb5⟩
        rw [s_no] at hown5
        have hown4' := own_below hown4 hb5
        have hB5 := hB4.trans (hb5.mono hB4.size)
        have hL3 := HL3.out
        have HJ3' : Hid ((Bd.cut (toU8 3) n [] [110, 111]).flatMap (fun q => q.load.tail) ≠ []) := HJ3
        clear hb5 hown4 hB4 HJ3 HL3
        generalize Bd.cut (toU8 3) n [] [110, 111] = L3 at *
        have hpos : 0 < L3.length := by
          rcases L3 with _ | ⟨x, l⟩
          · exact absurd rfl HJ3'.out
          · simp
        obtain ⟨g5, k5, rfl, hg5, hk51, hk52⟩ := own_form hown5 hpos
        unfold maxLen at hk52
        have hnews : ∀ (j : Nat) u, (lnsV L3)[j]? = some u → w5.cell? ((⟨g5, 0, none⟩ : Addr).add j) = some u := by
          intro j u hu
          have hj : j < (lnsV L3).length := (List.getElem?_eq_some_iff.1 hu).1
          have e1 : (⟨g5, 0, none⟩ : Addr).add j = ⟨g5, j, none⟩ := by unfold Addr.add; split <;> simp_all
          rw [e1, hown5.cellAt j (by rw [lnsV_length] at hj; omega)]
          exact hu
        have HNW := Lib.hid hnews
        clear hnews
        go_wp2_with (at_builtin; refine wpList_append_own _ rfl (.tmp 146) (.tmp 147) 23 rfl w2.heap.size 34 i34 _ 2 24 Try.underlying23 hi34 hz34 hs34 hb34 rfl (by decide) _ _ _ rfl hown4' ⟨g5, 0, none⟩ L3.length k5 (lnsV L3) rfl (lnsV_length L3) HNW.out (lns_one L3) (by unfold maxLen; omega) (by omega) hB5.size ?_)
        intro v' w6 hown6 hgrow _
        have hB6 := hB5.grown hgrow hB5.size (ownBlock_ge hown4')
        rw [← lnsV_append] at hown6
        obtain ⟨A6, k6, rfl, hk61, hk62⟩ := own_slice hown6
        obtain ⟨hML6, pM6⟩ := pk_own hown6
        have HML6 := Lib.hid hML6
        unfold maxLen at hk62
        have hld6 : Hid (∀ i, (hi : i < (M ++ L3).length) → ((M ++ L3)[i]).load.length ≤ 5000) := ok_load (fun q hq => by
          rcases List.mem_append.1 hq with h | h
          · exact HM.out.2.2.2.1 q h
          · exact (HO3.out q h).1)
        have HG6 : Hid (getN (M ++ L3) = ([], [], 13)) := mxd_three HM.out HO3.out HJ3'.out
        clear hML6 hown6 hgrow hown4' hown5 HNW hB5
        go_wp2_with fail
        refine (get_anyN A6 k6 (M ++ L3) _ _ HML6.out (by omega) hk61 hk62 pM6 hld6.out).mono ?_
        rintro e w7 ⟨rfl, hb7⟩
        rw [HG6.out]
        have hB7 := hB6.trans (hb7.mono hB6.size)
        clear hb7 hB6 pM6 hld6
        go_wp2_with fail
        refine (knows_any _).mono ?_
        rintro e w8 ⟨rfl, hb8⟩
        have hB8 := hB7.trans (hb8.mono hB7.size)
        have hrow8 := (hB8.block _ hwh2).trans HR.out
        have c0 : w8.cell? ⟨w.heap.size, 0, none⟩ = some (.string a) := by rw [cell_of_row _ _ 0 _ _ _ hrow8]; rfl
        have c1 : w8.cell? ⟨w.heap.size, 1, none⟩ = some (.string b) := by rw [cell_of_row _ _ 1 _ _ _ hrow8]; rfl
        have hB := bnext hB2 hB8
        clear hrow8 hb8 hB7 hB8
        go_wp2
        go_ret
        exact ⟨rfl, hB⟩
end Go.Proofs.Ytominjooffecnaa.WBd
