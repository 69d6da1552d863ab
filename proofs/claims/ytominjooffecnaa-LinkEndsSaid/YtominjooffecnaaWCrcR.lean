/- What layer 3's reference computes: the sum by long division is the sum by the register. For strings of at most 1000 bytes. -/
import Derived.Test.YtominjooffecnaaKit
import Derived.Test.YtominjooffecnaaWCrc
import Derived.Test.YtominjooffecnaaZeros
import Derived.Test.YtominjooffecnaaApp
namespace Go.Proofs.Ytominjooffecnaa.WCrcR
open Go.RowKit Kn

theorem info4 : (Try.prog.info? 4).map (fun i => (i.zero, i.size, i.bytes)) = some (some (.bool false), 1, 1) := by kernel_rfl

def row (N : Nat) (f : Nat → Bool) : List Value := (List.range N).map fun j => Value.bool (f j)
theorem row_length (N : Nat) (f : Nat → Bool) : (row N f).length = N := by simp [row]
theorem row_succ (N : Nat) (f : Nat → Bool) : row (N + 1) f = row N f ++ [.bool (f N)] := by simp [row, List.range_succ]
theorem row_at {N j : Nat} (f : Nat → Bool) (h : j < N) : (row N f)[j]? = some (.bool (f j)) := by simp [row, h]
theorem row_congr {N : Nat} {f g : Nat → Bool} (h : ∀ j, j < N → f j = g j) : row N f = row N g := by
  unfold row
  apply List.map_congr_left
  intro j hj
  rw [h j (by simpa using hj)]
theorem row_set {N i : Nat} {f g : Nat → Bool} {b : Bool} (_hi : i < N) (hb : g i = b) (h : ∀ j, j < N → j ≠ i → g j = f j) : (row N f).set i (.bool b) = row N g := by
  apply List.ext_getElem?
  intro j
  by_cases hj : j < N
  · by_cases e : i = j
    · subst e
      rw [List.getElem?_set_self (by rw [row_length]; exact hj), row_at g hj, hb]
    · rw [List.getElem?_set_ne e, row_at f hj, row_at g hj, h j hj (fun x => e x.symm)]
  · rw [List.getElem?_eq_none (by rw [List.length_set, row_length]; omega), List.getElem?_eq_none (by rw [row_length]; omega)]
theorem row_zeros (N k : Nat) (f : Nat → Bool) (h : ∀ j, N ≤ j → j < N + k → f j = false) : row N f ++ zeros k (.bool false) = row (N + k) f := by
  apply List.ext_getElem?
  intro j
  by_cases hj : j < N
  · rw [List.getElem?_append_left (by rw [row_length]; exact hj), row_at f hj, row_at f (by omega)]
  · rw [List.getElem?_append_right (by rw [row_length]; omega), row_length]
    by_cases h2 : j < N + k
    · rw [row_at f h2, h j (by omega) h2, zeros, List.getElem?_replicate, if_pos (by omega)]
    · rw [List.getElem?_eq_none (by rw [zeros, List.length_replicate]; omega), List.getElem?_eq_none (by rw [row_length]; omega)]

theorem msg_at (s : ByteArray) (i k c : Nat) (hi : i < s.size) (hk : k < 8) (hc : c = s[i].toNat / 2 ^ k) : Crc.msg s.data.toList (8 * i + k) = ((c : Int) % 2 == 1) := by
  subst hc
  unfold Crc.msg
  rw [show (8 * i + k) / 8 = i from by omega, show (8 * i + k) % 8 = k from by omega, List.getD_eq_getElem?_getD, List.getElem?_eq_getElem (by simpa using hi), Nat.testBit_eq_decide_div_mod_eq]
  rw [Bool.eq_iff_iff]
  simp
  have e : s.data[i] = s[i] := rfl
  rw [e]
  constructor
  · intro h; exact_mod_cast h
  · intro h; exact_mod_cast h

theorem powers_any (w : World) : Calls Try.prog 65 #[] w fun e w' => e = .returned (.slice (some ⟨w.heap.size, 0, none⟩) 14 14) ∧
    (∀ k, (hk : k < 14) → w'.cell? ⟨w.heap.size, k, none⟩ = some (.int .i64 ((Crc.powers[k]'hk : Nat) : Int))) ∧ Below w.heap.size w w' ∧ w'.heap.size = w.heap.size + 1 := by
  go_enter Try.func65, Try.ntmps65
  go_wp2
  go_ret
  refine ⟨rfl, ?_, (Below.refl _ _).alloc (Nat.le_refl _) _, by simp⟩
  intro k hk
  match k, hk with
  | 0, _ => simp [Crc.powers]
  | 1, _ => simp [Crc.powers]
  | 2, _ => simp [Crc.powers]
  | 3, _ => simp [Crc.powers]
  | 4, _ => simp [Crc.powers]
  | 5, _ => simp [Crc.powers]
  | 6, _ => simp [Crc.powers]
  | 7, _ => simp [Crc.powers]
  | 8, _ => simp [Crc.powers]
  | 9, _ => simp [Crc.powers]
  | 10, _ => simp [Crc.powers]
  | 11, _ => simp [Crc.powers]
  | 12, _ => simp [Crc.powers]
  | 13, _ => simp [Crc.powers]

theorem not_flip (s : List UInt8) (k : Nat) : (Crc.msg s k ^^ decide (k < k + 1)) = !Crc.msg s k := by simp

set_option maxRecDepth 100000 in
set_option maxHeartbeats 1000000 in
theorem sum_any (s : ByteArray) (w : World) (hs : s.size ≤ 1000) :
    Calls Try.prog 29 #[.string s] w fun e w' => e = .returned (.int .u32 (Crc.sum s.data.toList)) ∧ Below w.heap.size w w' := by
  obtain ⟨i4, hi4, hz4, hs4, hb4⟩ := info_parts info4
  go_enter Try.func29, Try.ntmps29
  go_wp2
  go_loopw [3, 4] (fun v i wr => ∃ k : Nat, k ≤ s.size ∧ i = .int .i64 k ∧ wr.ownsRow w.heap.size 4 1 v (8 * k) (row (8 * k) (Crc.msg s.data.toList)) ∧ Below w.heap.size w wr) (fun _ i _ => s.size - (intOf i).toNat)
  case atStart => exact ⟨0, Nat.zero_le _, rfl, World.ownsRow_nil _ _ _ _, Below.refl _ _⟩
  case round =>
    obtain ⟨k, hk, rfl, hown, hbel⟩ := hrel
    by_cases hlt : k < s.size
    · have hb8 := s[k].toNat_lt
      go_wp2
      obtain ⟨wo, rfl⟩ : ∃ wo : World, wo = wr := ⟨_, rfl⟩
      go_loopw [3, 5, 6] (fun v c j wr => ∃ (j' c' : Nat), j' ≤ 8 ∧ c' < 256 ∧ j = .int .i64 j' ∧ c = .int .u8 c' ∧ Hid (c' = s[k].toNat / 2 ^ j') ∧ wr.ownsRow w.heap.size 4 1 v (8 * k + j') (row (8 * k + j') (Crc.msg s.data.toList)) ∧ Below w.heap.size w wr) (fun _ _ j _ => 8 - (intOf j).toNat)
      case atStart => exact ⟨0, s[k].toNat, by omega, by omega, rfl, rfl, by show _ = _; simp, hown, hbel⟩
      case round =>
        obtain ⟨j, c, hj, hc8, rfl, rfl, hC, hown, hbel⟩ := hrel
        by_cases hj8 : j < 8
        · have HM := Lib.hid (msg_at s k j c hlt hj8 hC.out)
          go_wp2_with (at_builtin; refine wpList_append_new _ _ rfl _ _ 40 rfl w.heap.size 4 i4 (.bool false) 1 1 Try.underlying40 hi4 hz4 hs4 hb4 rfl (by decide) _ _ _ hown rfl 1 rfl rfl rfl (by unfold maxLen; omega) (by omega) hbel.size ?_)
          intro v' w1 hown' hgrow _
          have hbel' := hbel.grown hgrow hbel.size (ownBlock_ge hown)
          clear hown hgrow hbel
          go_wp2
          go_roundw
          case rel =>
            refine ⟨j + 1, c / 2, by omega, by omega, by go_num, by go_num, ?_, ?_, hbel'⟩
            · show c / 2 = _
              rw [hC.out, Nat.div_div_eq_div_mul, ← Nat.pow_succ]
            · rw [show 8 * k + (j + 1) = 8 * k + j + 1 from by omega, row_succ, HM.out]
              exact hown'
          case measure => simp [intOf]; omega
        · obtain rfl : j = 8 := by omega
          clear hC
          go_wp2
          go_roundw
          case rel => exact ⟨k + 1, by omega, by go_num, hown, hbel⟩
          case measure => simp [intOf]; omega
    · obtain rfl : k = s.size := by omega
      go_wp2_with (at_builtin; refine wpList_append_own_zeros _ rfl _ _ 40 3 rfl w.heap.size 4 i4 (.bool false) 1 .i64 .i64 Try.underlying40 Try.underlying3 hi4 hz4 rfl rfl hs4 hb4 _ _ _ rfl hown 32 rfl (by decide) ?d1 ?d2 ?d3 ?_)
      case d1 => unfold maxLen; omega
      case d2 => omega
      case d3 => exact hbel.size
      intro v' w1 hown' hgrow hne
      have hbel' := hbel.grown hgrow hbel.size (ownBlock_ge hown)
      rw [row_zeros _ _ _ (fun j h1 h2 => Crc.msg_out (by simpa using h1))] at hown'
      clear hown hgrow hbel
      obtain ⟨g, cap, hv, hg1, hcap, hcapm⟩ := own_form hown' (by omega)
      unfold maxLen at hcapm
      subst hv
      clear hne
      go_wp2
      go_loopw [7] (fun i wr => ∃ k : Nat, k ≤ 32 ∧ i = .int .i64 k ∧ wr.ownsRow w.heap.size 4 1 (.slice (some ⟨g, 0, none⟩) (8 * s.size + 32) cap) (8 * s.size + 32) (row (8 * s.size + 32) (fun j => Crc.msg s.data.toList j ^^ decide (j < k))) ∧ Below w.heap.size w wr) (fun i _ => 32 - (intOf i).toNat)
      case atStart => exact ⟨0, by omega, rfl, by simpa using hown', hbel'⟩
      case round =>
        obtain ⟨k, hk, rfl, hown, hbel⟩ := hrel
        by_cases hlt : k < 32
        · have hcell := hown.cellAt k (by omega)
          rw [row_at _ (by omega)] at hcell
          have hfr := hown.frozenAt k
          have hst := hown.stored k (.bool !Crc.msg s.data.toList k)
          rw [row_set (g := fun j => Crc.msg s.data.toList j ^^ decide (j < k + 1)) (by omega) (not_flip _ _) (fun j _ hj => by simp only [show (j < k + 1) = (j < k) from propext ⟨fun h => by omega, fun h => by omega⟩])] at hst
          have HST := Lib.hid hst
          clear hst
          go_wp2
          go_roundw
          case rel => exact ⟨k + 1, by omega, by go_num, HST.out.1, hbel.setCell (by simpa using hg1) _⟩
          case measure => simp [intOf]; omega
        · obtain rfl : k = 32 := by omega
          rw [show row (8 * s.size + 32) (fun j => Crc.msg s.data.toList j ^^ decide (j < 32)) = row (8 * s.size + 32) (Crc.B s.data.toList 0) from row_congr (fun j _ => rfl)] at hown
          go_wp2_with (go_at_call 65; refine (powers_any _).mono ?_; rintro e w2 ⟨rfl, hp, hb2, hz2⟩)
          have hbel2 : Below w.heap.size w w2 := hbel.trans (hb2.mono hbel.size)
          have hgw : g < wr.heap.size := own_lt hown g rfl
          have hown2 := own_below hown hb2
          have hws := hbel.size
          obtain ⟨gp, HG⟩ : ∃ gp, Hid (gp = wr.heap.size) := ⟨_, rfl⟩
          rw [← HG.out] at hp ⊢
          have hne : gp ≠ g := by rw [HG.out]; omega
          have hgp : w.heap.size ≤ gp := by rw [HG.out]; exact hws
          clear hown hbel hb2 hz2 hws hgw HG
          go_loopw [9] (fun i wr => ∃ k : Nat, k ≤ 8 * s.size ∧ i = .int .i64 k ∧ wr.ownsRow w.heap.size 4 1 (.slice (some ⟨g, 0, none⟩) (8 * s.size + 32) cap) (8 * s.size + 32) (row (8 * s.size + 32) (Crc.B s.data.toList k)) ∧
            (∀ k, (hk : k < 14) → wr.cell? ⟨gp, k, none⟩ = some (.int .i64 ((Crc.powers[k]'hk : Nat) : Int))) ∧ Below w.heap.size w wr) (fun i _ => 8 * s.size - (intOf i).toNat)
          case atStart => exact ⟨0, by omega, rfl, hown2, hp, hbel2⟩
          case round =>
            clear hown2 hp hbel2
            obtain ⟨k, hk, rfl, hown, hp, hbel⟩ := hrel
            by_cases hlt : k < 8 * s.size
            · have hcell := hown.cellAt k (by omega)
              rw [row_at _ (by omega)] at hcell
              have HP := Lib.hid hp
              clear hp
              cases hB : Crc.B s.data.toList k k
              · rw [hB] at hcell
                have HB := Lib.hid hB
                clear hB
                go_wp2
                go_roundw
                case rel =>
                  refine ⟨k + 1, by omega, by go_num, ?_, HP.out, hbel⟩
                  rw [row_congr (g := Crc.B s.data.toList k) (fun j _ => Crc.B_no _ _ _ HB.out)]
                  exact hown
                case measure => simp [intOf]; omega
              · rw [hB] at hcell
                have HB := Lib.hid hB
                clear hB
                go_wp2
                obtain ⟨wo, rfl⟩ : ∃ wo : World, wo = wr := ⟨_, rfl⟩
                go_loopw [10] (fun i wr => ∃ m : Nat, m ≤ 14 ∧ i = .int .i64 m ∧ wr.ownsRow w.heap.size 4 1 (.slice (some ⟨g, 0, none⟩) (8 * s.size + 32) cap) (8 * s.size + 32) (row (8 * s.size + 32) (Crc.Bk s.data.toList k m)) ∧
                  Hid (∀ k, (hk : k < 14) → wr.cell? ⟨gp, k, none⟩ = some (.int .i64 ((Crc.powers[k]'hk : Nat) : Int))) ∧ Below w.heap.size w wr) (fun i _ => 14 - (intOf i).toNat)
                case atStart => exact ⟨0, by omega, rfl, by rw [row_congr (g := Crc.B s.data.toList k) (fun j _ => Crc.Bk_zero _ _ _)]; exact hown, HP, hbel⟩
                case round =>
                  clear hown HP hbel hcell
                  obtain ⟨m, hm, rfl, hown, HP, hbel⟩ := hrel
                  by_cases hm14 : m < 14
                  · obtain ⟨q, hq⟩ : ∃ q, q = Crc.powers[m]'hm14 := ⟨_, rfl⟩
                    have hq26 : q ≤ 26 := by rw [hq]; exact (Crc.powers_get m hm14).1
                    have hpc := HP.out m hm14
                    rw [← hq] at hpc
                    have hcell := hown.cellAt (k + 32 - q) (by omega)
                    rw [row_at _ (by omega)] at hcell
                    have hfr := hown.frozenAt (k + 32 - q)
                    have hst := hown.stored (k + 32 - q) (.bool !Crc.Bk s.data.toList k m (k + 32 - q))
                    rw [row_set (g := Crc.Bk s.data.toList k (m + 1)) (by omega) (by rw [hq]; exact Crc.Bk_succ_hit _ _ _ hm14 HB.out) (fun j _ hj => Crc.Bk_succ_miss _ _ _ _ hm14 (by rw [← hq]; exact hj))] at hst
                    have HST := Lib.hid hst.1
                    clear hst
                    have HQ := Lib.hid hq
                    clear hq
                    go_wp2
                    go_roundw
                    case rel => exact ⟨m + 1, by omega, by go_num, HST.out, fun i hi => by rw [World.cell?_setCell_other _ _ _ _ (fun x => hne (congrArg Addr.block x).symm)]; exact HP.out i hi, hbel.setCell (by simpa using hg1) _⟩
                    case measure => simp [intOf]; omega
                  · obtain rfl : m = 14 := by omega
                    rw [row_congr (g := Crc.B s.data.toList (k + 1)) (fun j _ => Crc.Bk_all _ _ _)] at hown
                    go_wp2
                    go_roundw
                    case rel => exact ⟨k + 1, by omega, by go_num, hown, HP.out, hbel⟩
                    case measure => simp [intOf]; omega
            · obtain rfl : k = 8 * s.size := by omega
              clear hp
              go_wp2
              obtain ⟨wo, rfl⟩ : ∃ wo : World, wo = wr := ⟨_, rfl⟩
              go_loop [12, 13] (fun n i => ∃ m n' : Nat, m ≤ 32 ∧ n' < 4294967296 ∧ i = .int .i64 m ∧ n = .int .u32 n' ∧ Hid (n' = Crc.sum s.data.toList / 2 ^ (32 - m))) (fun _ i => 32 - (intOf i).toNat)
              case atStart => exact ⟨0, 0, by omega, by omega, rfl, rfl, by show 0 = _; rw [Nat.div_eq_of_lt]; exact Crc.sum_lt _⟩
              case round =>
                obtain ⟨m, n, hm, hn32, rfl, rfl, HN⟩ := hrel
                by_cases hm32 : m < 32
                · have hup := Crc.sum_up s.data.toList m hm32
                  rw [← HN.out] at hup
                  have hcell := hown.cellAt (8 * s.size + 31 - m) (by omega)
                  rw [row_at _ (by omega)] at hcell
                  have hn2 : 2 * n + 1 < 4294967296 := by
                    have h1 := Crc.sum_lt s.data.toList
                    have h2 : n ≤ Crc.sum s.data.toList / 2 := by
                      rw [HN.out]
                      exact Nat.div_le_div_left (Nat.le_trans (show 2 ≤ 2 ^ 1 by omega) (Nat.pow_le_pow_right (by omega) (by omega))) (by omega)
                    omega
                  rw [show 8 * s.size + 31 - m = 8 * s.data.toList.length + (31 - m) from by simp; omega] at hcell
                  have hlen : s.data.toList.length = s.size := by simp
                  have hix : 8 * s.data.toList.length + (31 - m) = 8 * s.size + 31 - m := by omega
                  rw [hlen] at hup hcell
                  rw [show 8 * s.size + (31 - m) = 8 * s.size + 31 - m from by omega] at hup hcell
                  have HU := Lib.hid hup
                  clear hup hlen hix
                  go_wp2
                  · have ht : (!Crc.B s.data.toList (8 * s.size) (8 * s.size + 31 - m)) = true := by assumption
                    go_roundw
                    case rel =>
                      refine ⟨m + 1, 2 * n + 1, by omega, by omega, by go_num, by go_num, ?_⟩
                      have h := HU.out
                      rw [if_neg (by simpa using ht)] at h
                      show 2 * n + 1 = _
                      rw [show 32 - (m + 1) = 31 - m from by omega, h]
                    case measure => simp [intOf]; omega
                  · have ht : (!Crc.B s.data.toList (8 * s.size) (8 * s.size + 31 - m)) = false := by assumption
                    go_roundw
                    case rel =>
                      refine ⟨m + 1, 2 * n, by omega, by omega, by go_num, by go_num, ?_⟩
                      have h := HU.out
                      rw [if_pos (by simpa using ht)] at h
                      show 2 * n = _
                      rw [show 32 - (m + 1) = 31 - m from by omega, h]
                      rfl
                    case measure => simp [intOf]; omega
                · obtain rfl : m = 32 := by omega
                  have hN : n = Crc.sum s.data.toList := by rw [HN.out]; simp
                  have HN2 := Lib.hid hN
                  clear hN HN
                  go_wp2
                  go_ret
                  exact ⟨ret_int (by rw [HN2.out]), hbel⟩

end Go.Proofs.Ytominjooffecnaa.WCrcR
