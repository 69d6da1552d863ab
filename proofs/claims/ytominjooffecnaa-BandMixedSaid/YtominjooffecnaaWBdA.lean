/- The rows of layer 8's examples; the walk of the laws BandPuts and BandGets. -/
import Derived.Test.YtominjooffecnaaWBdR
import Derived.Test.YtominjooffecnaaWBdH
import Derived.Test.YtominjooffecnaaWPkS
import Derived.Outline
namespace Go.Proofs.Ytominjooffecnaa.WBd
open Go.RowKit Kn WPk

set_option maxRecDepth 100000 in
set_option maxHeartbeats 1000000 in
theorem as_anyB (A : Option Addr) (cap : Nat) (L : List Pkt.Ln) (w : World) (hL : L.length ≤ 100000) (hcap : L.length ≤ cap) (hcm : cap ≤ 9223372036854775807) (hp : Pk w A L) :
    Calls Try.prog 22 #[.slice A L.length cap] w fun e w' => ∃ v, e = .returned v ∧ w'.ownsRow w.heap.size 67 2 v L.length (lnsV L) ∧ Below w.heap.size w w' := by
  obtain ⟨i67, hi67, hz67, hs67, hb67⟩ := info_parts info67
  go_enter Try.func22, Try.ntmps22
  go_wp2
  go_loopw [3, 4] (fun v i wr => ∃ k : Nat, k ≤ L.length ∧ i = .int .i64 k ∧ wr.ownsRow w.heap.size 67 2 v k (lnsV (L.take k)) ∧ Below w.heap.size w wr) (fun _ i _ => L.length - (intOf i).toNat)
  case atStart => exact ⟨0, Nat.zero_le _, rfl, World.ownsRow_nil _ _ _ _, Below.refl _ _⟩
  case round =>
    obtain ⟨k, hk, rfl, hown, hbel⟩ := hrel
    by_cases hlt : k < L.length
    · have hp' := hp.below hbel
      rcases hp' with h0 | ⟨b, off, rfl, hbw, hc⟩
      · rw [h0] at hlt; simp at hlt
      · obtain ⟨hc1, hc2⟩ := hc k hlt
        have hlt' : (k : Int) < (L.length : Int) := by omega
        have hk0 : (0 : Int) ≤ (k : Int) := by omega
        clear hc
        go_wp2
        go_region_law (refine step_append_new _ rfl (.tmp 11) (.tmp 23) 27 rfl w.heap.size 67 i67 _ 2 24 Try.underlying27 hi67 hz67 hs67 hb67 rfl (by decide) _ _ _ hown (by simp [Act.eval]) 1 (by simp [Act.eval]) rfl rfl (by unfold maxLen; omega) (by omega) hbel.size ?_; intro v' w1 hown' hgrow)
        all_goals
          have hbel' := (hbel.grown hgrow hbel.size (ownBlock_ge hown))
          go_wp2
          go_roundw
          case rel =>
            refine ⟨k + 1, by omega, by go_num, ?_, hbel'⟩
            rw [lnsV_succ L k hlt]
            exact hown'
          case measure => simp [intOf]; omega
    · obtain rfl : k = L.length := by omega
      rw [List.take_length] at hown
      go_wp2
      go_ret
      exact ⟨_, rfl, hown, hbel⟩


theorem s_ab : (⟨#[97, 98, 99]⟩ : ByteArray).data.toList = [97, 98, 99] := rfl
theorem cut_ab : Bd.cut (toU8 1) 2 [] [97, 98, 99] = [⟨0, [1, 97, 98]⟩, ⟨0, [1, 99]⟩] := by decide +kernel

set_option maxRecDepth 100000 in
set_option maxHeartbeats 2000000 in
theorem knows_any (w : World) : Calls Try.prog 18 #[] w fun e w' => e = .returned (.bool true) ∧ Below w.heap.size w w' := by
  have k2 : getN [⟨1, []⟩] = ([], [], 2) := by decide +kernel
  go_enter Try.func18, Try.ntmps18
  go_wp2_with fail
  refine (put_good 1 ⟨#[97, 98, 99]⟩ 2 _ (by decide) (by decide) (by decide) (by decide) (by decide)).mono ?_
  rintro e w1 ⟨v, rfl, hown, hb1⟩
  rw [s_ab, cut_ab] at hown
  obtain ⟨A, cc, rfl, hc1, hc2⟩ := own_slice hown
  obtain ⟨-, hp⟩ := pk_own hown
  have HP := Lib.hid hp
  have hB1 := Lib.hid hb1
  simp at hc1
  unfold maxLen at hc2
  clear hb1 hown hp
  go_wp2_with fail
  refine (get_any (some ⟨w1.heap.size, 0, none⟩) 1 [⟨1, []⟩] _ (by decide) (by decide) (by decide) ?_ ?_).mono ?_
  · refine .inr ⟨w1.heap.size, 0, rfl, by simp, fun i hi => ?_⟩
    match i, hi with
    | 0, _ => simp
  · intro i hi
    match i, hi with
    | 0, _ => simp
  rintro e w2 ⟨rfl, hb2⟩
  rw [k2]
  have hB2 := bnext (balloc hB1.out _) hb2
  have hp := HP.out.below (bnext (balloc (Below.refl _ _) _) hb2)
  rcases hp with h0 | ⟨b, off, rfl, hbw, hc⟩
  · cases h0
  have p0 := hc 0 (by decide)
  have p1 := hc 1 (by decide)
  simp at p0 p1
  clear hc hb2
  go_wp2
  go_ret
  exact ⟨rfl, hB2⟩
set_option maxRecDepth 100000 in
set_option maxHeartbeats 4000000 in
theorem bandPuts (c : Int) (_hcw : (Lit.int .i64 c).wf = true) (s : ByteArray) (_hs : s.size ≤ 140737488351232) (m : Int) (_hmw : (Lit.int .i64 m).wf = true) (w : World) :
    Calls Try.prog 3 #[.int .i64 c, .string s, .int .i64 m] w fun e w' => e = .returned (.bool true) ∧ Below w.heap.size w w' := by
  clear _hcw _hmw
  by_cases hss : s.size ≤ 3000
  · by_cases hg : 1 ≤ c ∧ c ≤ 3 ∧ 1 ≤ m ∧ m ≤ 999
    · obtain ⟨hc1, hc3, hm1, hm9⟩ := hg
      obtain ⟨n, rfl⟩ := Int.eq_ofNat_of_zero_le (show 0 ≤ m by omega)
      have HL : Hid ((Bd.cut (toU8 c) n [] s.data.toList).length ≤ 3000) := by
        have := Bd.cut_length (toU8 c) n s.data.toList []
        simp at this
        exact Nat.le_trans this hss
      go_enter Try.func3, Try.ntmps3
      go_wp2_with fail
      refine (put_good c s n _ hc1 hc3 (by omega) (by omega) (by omega)).mono ?_
      rintro e w1 ⟨v1, rfl, hown1, hb1⟩
      obtain ⟨A1, c1, rfl, hc11, hc12⟩ := own_slice hown1
      have hp1 := (pk_own hown1).2
      clear hown1
      go_wp2_with fail
      refine (putR_good c s n _ hc1 hc3 (by omega) (by omega) (by omega)).mono ?_
      rintro e w2 ⟨v2, rfl, hown2, hb2⟩
      obtain ⟨A2, c2, rfl, hc21, hc22⟩ := own_slice hown2
      have hp2 := (pk_own hown2).2
      have hB2 := bnext hb1 hb2
      have hp1' := hp1.below hb2
      clear hown2 hb1 hb2 hp1
      unfold maxLen at hc12 hc22
      have hL := HL.out
      generalize Bd.cut (toU8 c) n [] s.data.toList = L at *
      go_wp2_with fail
      refine (as_anyB A1 c1 L _ (by omega) hc11 hc12 hp1').mono ?_
      rintro e w3 ⟨v3, rfl, hown3, hb3⟩
      obtain ⟨A3, c3, rfl, hc31, hc32⟩ := own_slice hown3
      have hp3 := (pk_own hown3).2
      have hB3 := bnext hB2 hb3
      have hp2' := hp2.below hb3
      clear hown3 hb3 hp2 hp1' hB2
      unfold maxLen at hc32
      go_wp2_with fail
      refine (same_any A3 A2 c3 c2 L _ hc31 hc32 hp3 hp2').mono ?_
      rintro e w6 ⟨rfl, hb6⟩
      have hB6 := bnext hB3 hb6
      clear hB3 hb6 hp3 hp2'
      go_wp2_with fail
      refine (knows_any _).mono ?_
      rintro e w7 ⟨rfl, hb7⟩
      go_wp2
      go_ret
      exact ⟨rfl, bnext hB6 hb7⟩
    · have hg' : c < 1 ∨ 3 < c ∨ m < 1 ∨ 1000 ≤ m := by omega
      have HG := Lib.hid hg'
      clear hg hg'
      go_enter Try.func3, Try.ntmps3
      go_wp2_with fail
      refine (put_bad c s m _ HG.out).mono ?_
      rintro e w1 ⟨rfl, hb1⟩
      go_wp2_with fail
      refine (putR_bad c s m _ HG.out).mono ?_
      rintro e w2 ⟨rfl, hb2⟩
      have hB2 := bnext hb1 hb2
      clear hb1 hb2
      go_wp2_with fail
      refine (as_anyB none 0 [] _ (by simp) (by simp) (by simp) (.inl rfl)).mono ?_
      rintro e w3 ⟨v3, rfl, hown3, hb3⟩
      obtain ⟨A3, c3, rfl, hc31, hc32⟩ := own_slice hown3
      have hp3 := (pk_own hown3).2
      have hB3 := bnext hB2 hb3
      clear hown3 hb3 hB2
      unfold maxLen at hc32
      go_wp2_with fail
      refine (same_any A3 none c3 0 [] _ hc31 hc32 hp3 (.inl rfl)).mono ?_
      rintro e w6 ⟨rfl, hb6⟩
      have hB6 := bnext hB3 hb6
      clear hB3 hb6 hp3
      go_wp2_with fail
      refine (knows_any _).mono ?_
      rintro e w7 ⟨rfl, hb7⟩
      go_wp2
      go_ret
      exact ⟨rfl, bnext hB6 hb7⟩
  · have h2 : 3000 < s.size := by omega
    clear hss
    go_enter Try.func3, Try.ntmps3
    go_wp2_with fail
    refine (knows_any _).mono ?_
    rintro e w2 ⟨rfl, hb2⟩
    go_wp2
    go_ret
    exact ⟨rfl, hb2⟩

set_option maxRecDepth 100000 in
set_option maxHeartbeats 4000000 in
theorem bandGets (A : Option Addr) (cap : Nat) (L : List Pkt.Ln) (w : World) (hcap : L.length ≤ cap) (hcm : cap ≤ 9223372036854775807) (hp : Pk w A L) (hload : ∀ i, (h : i < L.length) → (L[i]).load.length ≤ 9223372036854775807) :
    Calls Try.prog 4 #[.slice A L.length cap] w fun e w' => e = .returned (.bool true) ∧ Below w.heap.size w w' := by
  have HL := Lib.hid hload
  clear hload
  by_cases h40 : L.length ≤ 40
  · go_enter Try.func4, Try.ntmps4
    go_wp2
    go_loopw [3] (fun iv wr => ∃ k : Nat, iv = .int .i64 k ∧ k ≤ L.length ∧ Below w.heap.size w wr ∧ Hid (∀ i, (h : i < L.length) → i < k → (L[i]).load.length ≤ 1100)) (fun iv _ => L.length - (intOf iv).toNat)
    case atStart =>
      exact ⟨0, rfl, Nat.zero_le _, Below.refl _ _, fun i h hi => absurd hi (by omega)⟩
    case round =>
      obtain ⟨k, rfl, hk, hbel, HO⟩ := hrel
      have hp' := hp.below hbel
      by_cases hlt : k < L.length
      · rcases hp' with h0 | ⟨b, off, rfl, hbw, hc⟩
        · rw [h0] at hlt; simp at hlt
        · obtain ⟨hc1, hc2⟩ := hc k hlt
          have hlt' : (k : Int) < (L.length : Int) := by omega
          have hk0 : (0 : Int) ≤ (k : Int) := by omega
          have hl5 := HL.out k hlt
          clear hc
          by_cases h11 : L[k].load.length ≤ 1100
          · have HG : Hid (∀ i, (h : i < L.length) → i < k + 1 → (L[i]).load.length ≤ 1100) := by
              intro i h hi
              by_cases hik : i = k
              · subst hik; exact h11
              · exact HO.out i h (by omega)
            clear HO
            go_wp2
            go_roundw
            case rel => exact ⟨k + 1, by go_num, by omega, hbel, HG⟩
            case measure => simp [intOf]; omega
          · have h12 : 1100 < L[k].load.length := by omega
            clear h11
            go_wp2_with fail
            refine (knows_any _).mono ?_
            rintro e w7 ⟨rfl, hb7⟩
            go_wp2
            go_ret
            exact ⟨rfl, bnext hbel hb7⟩
      · obtain rfl : k = L.length := by omega
        have hall : ∀ i, (h : i < L.length) → (L[i]).load.length ≤ 5000 := fun i h => Nat.le_trans (HO.out i h h) (by decide)
        have HA := Lib.hid hall
        clear HO hall HL
        go_wp2_with fail
        refine (get_any A cap L _ (by omega) hcap hcm hp' HA.out).mono ?_
        rintro e w1 ⟨rfl, hb1⟩
        have hp1 := hp'.below hb1
        have hB1 := bnext hbel hb1
        clear hb1 hbel hp'
        go_wp2_with fail
        refine (as_anyB A cap L _ (by omega) hcap hcm hp1).mono ?_
        rintro e w3 ⟨v3, rfl, hown3, hb3⟩
        obtain ⟨A3, c3, rfl, hc31, hc32⟩ := own_slice hown3
        have hp3 := (pk_own hown3).2
        have hB3 := bnext hB1 hb3
        clear hown3 hb3 hB1 hp1
        unfold maxLen at hc32
        go_wp2_with fail
        refine (getR_any A3 c3 L _ (by omega) hc31 hc32 hp3 HA.out).mono ?_
        rintro e w4 ⟨rfl, hb4⟩
        have hB4 := bnext hB3 hb4
        clear hb4 hB3 hp3
        generalize getN L = g
        obtain ⟨x, y, n⟩ := g
        go_wp2_with fail
        refine (knows_any _).mono ?_
        rintro e w7 ⟨rfl, hb7⟩
        go_wp2
        go_ret
        exact ⟨rfl, bnext hB4 hb7⟩
  · have h2 : 40 < L.length := by omega
    clear h40
    go_enter Try.func4, Try.ntmps4
    go_wp2_with fail
    refine (knows_any _).mono ?_
    rintro e w2 ⟨rfl, hb2⟩
    go_wp2
    go_ret
    exact ⟨rfl, hb2⟩
end Go.Proofs.Ytominjooffecnaa.WBd
