/- What layer 8's reference Get computes. -/
import Derived.Test.YtominjooffecnaaWBdG
namespace Go.Proofs.Ytominjooffecnaa.WBd
open Go.RowKit Kn WPk

theorem getN_three (L : List Pkt.Ln) (k : Nat) (h : k < L.length) (ha : L.all okB = true) (h3 : (L[k].load.headD 0).toNat = 3) : getN L = ([], [], 13) := by
  have hk : okB L[k] = true := by
    rw [List.all_eq_true] at ha
    exact ha _ (List.getElem_mem h)
  rw [getN, if_pos ha, if_neg]
  intro hs
  have : L[k].load.tail = [] := by
    rw [strm, List.flatMap_eq_nil_iff] at hs
    have := hs _ (List.getElem_mem h)
    rwa [if_pos h3] at this
  have hl : L[k].load.tail.length = 0 := by rw [this]; rfl
  rw [List.length_tail] at hl
  simp [okB] at hk
  omega
theorem allB_at (L : List Pkt.Ln) (k : Nat) (h : k < L.length) (ha : L.all okB = true) : okB L[k] = true := by
  rw [List.all_eq_true] at ha
  exact ha _ (List.getElem_mem h)

set_option maxRecDepth 100000 in
set_option maxHeartbeats 2000000 in
theorem getR_any (A : Option Addr) (cap : Nat) (L : List Pkt.Ln) (w : World) (hL : L.length ≤ 10000) (hcap : L.length ≤ cap) (hcm : cap ≤ 9223372036854775807) (hp : Pk w A L) (hload : ∀ i, (h : i < L.length) → (L[i]).load.length ≤ 5000) :
    Calls Try.prog 24 #[.slice A L.length cap] w fun e w' => e = .returned (.tuple #[.string ⟨(getN L).1.toArray⟩, .string ⟨(getN L).2.1.toArray⟩, .int .i64 (getN L).2.2]) ∧ Below w.heap.size w w' := by
  have HL := Lib.hid hload
  clear hload
  go_enter Try.func24, Try.ntmps24
  go_wp2
  go_loopw [5] (fun iv wr => ∃ k : Nat, iv = .int .i64 k ∧ k ≤ L.length ∧ Below w.heap.size w wr ∧ Hid ((L.take k).all okB = true)) (fun iv _ => L.length - (intOf iv).toNat)
  case atStart =>
    exact ⟨0, rfl, Nat.zero_le _, Below.refl _ _, rfl⟩
  case round =>
    obtain ⟨k, rfl, hk, hbel, HO⟩ := hrel
    by_cases hlt : k < L.length
    · have hp' := hp.below hbel
      rcases hp' with h0 | ⟨b, off, rfl, hbw, hc⟩
      · rw [h0] at hlt; simp at hlt
      · obtain ⟨hc1, hc2⟩ := hc k hlt
        have hlt' : (k : Int) < (L.length : Int) := by omega
        have hk0 : (0 : Int) ≤ (k : Int) := by omega
        have hl5 := HL.out k hlt
        clear hc
        obtain ⟨q, l, hql⟩ : ∃ q l, L[k] = ⟨q, l⟩ := ⟨_, _, rfl⟩
        rw [hql] at hc1 hc2 hl5
        simp only at hc1 hc2 hl5
        by_cases hq : q = 0
        · subst hq
          by_cases h2 : l.length < 2
          · have HE := Lib.hid (getN_bad L k hlt (by rw [hql]; simp [okB]; omega))
            clear hql
            go_wp2
            all_goals
              go_ret3
              exact ⟨by rw [HE.out]; rfl, hbel⟩
          · by_cases h1000 : 1000 < l.length
            · have HE := Lib.hid (getN_bad L k hlt (by rw [hql]; simp [okB]; omega))
              clear hql
              go_wp2
              all_goals
                go_ret3
                exact ⟨by rw [HE.out]; rfl, hbel⟩
            · have hl0 : 0 < (⟨l.toArray⟩ : ByteArray).size := by rw [size_mk]; omega
              have hhd : l.head?.getD 0 = (⟨l.toArray⟩ : ByteArray)[0] := by
                cases l with
                | nil => simp at h2
                | cons a l => rfl
              have hcc : (⟨l.toArray⟩ : ByteArray)[0].toNat < 1 ∨ 3 < (⟨l.toArray⟩ : ByteArray)[0].toNat ∨ (1 ≤ (⟨l.toArray⟩ : ByteArray)[0].toNat ∧ (⟨l.toArray⟩ : ByteArray)[0].toNat ≤ 3) := by omega
              rcases hcc with h0 | h0 | ⟨h01, h02⟩
              · have HE := Lib.hid (getN_bad L k hlt (by rw [hql]; simp [okB, hhd]; omega))
                clear hql hhd
                go_wp2
                all_goals
                  go_ret3
                  exact ⟨by rw [HE.out]; rfl, hbel⟩
              · have HE := Lib.hid (getN_bad L k hlt (by rw [hql]; simp [okB, hhd]; omega))
                clear hql hhd
                go_wp2
                all_goals
                  go_ret3
                  exact ⟨by rw [HE.out]; rfl, hbel⟩
              · have HG : Hid ((L.take (k + 1)).all okB = true) := allB_succ L k hlt HO.out (by rw [hql]; simp [okB, hhd]; omega)
                clear HO hql hhd
                go_wp2
                go_roundw
                case rel => exact ⟨k + 1, by go_num, by omega, hbel, HG⟩
                case measure => simp [intOf]; omega
        · have HE := Lib.hid (getN_bad L k hlt (by rw [hql]; simp [okB]; omega))
          clear hql
          go_wp2
          all_goals
            go_ret3
            exact ⟨by rw [HE.out]; rfl, hbel⟩
    · obtain rfl : k = L.length := by omega
      rw [List.take_length] at HO
      have HB := Lib.hid hbel
      clear hbel
      go_wp2
      go_loopw [6, 7, 8] (fun va vb vk wr' => ∃ (k : Nat) (x1 x2 : ByteArray), va = .string x1 ∧ vb = .string x2 ∧ vk = .int .i64 k ∧ k ≤ L.length ∧ x1.size ≤ 5000 * k ∧ x2.size ≤ 5000 * k ∧ Below w.heap.size w wr' ∧
          Hid (x1.data.toList = strm 1 (L.take k) ∧ x2.data.toList = strm 2 (L.take k) ∧ strm 3 (L.take k) = [])) (fun _ _ vk _ => L.length - (intOf vk).toNat)
      case atStart =>
        exact ⟨0, ⟨#[]⟩, ⟨#[]⟩, rfl, rfl, rfl, Nat.zero_le _, Nat.zero_le _, Nat.zero_le _, HB.out, rfl, rfl, rfl⟩
      case round =>
        obtain ⟨k, x1, x2, rfl, rfl, rfl, hk, z1, z2, hbel, HS⟩ := hrel
        by_cases hlt : k < L.length
        · have hp' := hp.below hbel
          rcases hp' with h0 | ⟨b, off, rfl, hbw, hc⟩
          · rw [h0] at hlt; simp at hlt
          · obtain ⟨hc1, hc2⟩ := hc k hlt
            have hlt' : (k : Int) < (L.length : Int) := by omega
            have hk0 : (0 : Int) ≤ (k : Int) := by omega
            have hl5 := HL.out k hlt
            clear hc
            have hok := allB_at L k hlt HO.out
            obtain ⟨q, l, hql⟩ : ∃ q l, L[k] = ⟨q, l⟩ := ⟨_, _, rfl⟩
            rw [hql] at hc1 hc2 hl5 hok
            simp only at hc1 hc2 hl5
            simp only [okB, Bool.and_eq_true, decide_eq_true_eq] at hok
            obtain ⟨⟨⟨⟨rfl, h2⟩, h1000⟩, h01⟩, h02⟩ := hok
            have hl0 : 0 < (⟨l.toArray⟩ : ByteArray).size := by rw [size_mk]; omega
            have hhd : l.headD 0 = (⟨l.toArray⟩ : ByteArray)[0] := by
              cases l with
              | nil => simp at h2
              | cons a l => rfl
            rw [hhd] at h01 h02
            have HT : Hid ((⟨l.toArray⟩ : ByteArray).extract 1 l.length = ⟨l.tail.toArray⟩) := by
              have e : ((⟨l.toArray⟩ : ByteArray).extract 1 (⟨l.toArray⟩ : ByteArray).size).data.toList = l.tail := by rw [ext_drop]; simp
              rw [size_mk] at e
              show (⟨l.toArray⟩ : ByteArray).extract 1 l.length = ⟨l.tail.toArray⟩
              rw [← Lib.mk_data ((⟨l.toArray⟩ : ByteArray).extract 1 l.length), e]
            have hcc : (⟨l.toArray⟩ : ByteArray)[0].toNat = 1 ∨ (⟨l.toArray⟩ : ByteArray)[0].toNat = 2 ∨ (⟨l.toArray⟩ : ByteArray)[0].toNat = 3 := by omega
            clear h01 h02
            rcases hcc with h0 | h0 | h0
            · have HG : Hid (strm 1 (L.take (k + 1)) = strm 1 (L.take k) ++ l.tail ∧ strm 2 (L.take (k + 1)) = strm 2 (L.take k) ++ [] ∧ strm 3 (L.take (k + 1)) = strm 3 (L.take k) ++ []) := by
                refine ⟨?_, ?_, ?_⟩
                all_goals
                  rw [strm_succ _ L k hlt, hql]
                  rw [hhd]
                  simp [h0]
              clear hql hhd
              have hlim : (9223372036854775807 < x1.size + (l.length - 1)) = False := by simp; omega
              go_wp2
              all_goals
                go_roundw
                case rel =>
                  rw [HT.out]
                  refine ⟨k + 1, _, x2, rfl, rfl, by go_num, by omega, ?_, ?_, hbel, ?_⟩
                  all_goals try first | omega | (simp only [ByteArray.size_append, size_mk, List.length_tail]; omega)
                  refine ⟨?_, ?_, ?_⟩
                  · rw [HG.out.1, ← HS.out.1]; try simp
                  · rw [HG.out.2.1, ← HS.out.2.1]; try simp
                  · rw [HG.out.2.2, HS.out.2.2]; try simp
                case measure => simp [intOf]; omega
            · have HG : Hid (strm 1 (L.take (k + 1)) = strm 1 (L.take k) ++ [] ∧ strm 2 (L.take (k + 1)) = strm 2 (L.take k) ++ l.tail ∧ strm 3 (L.take (k + 1)) = strm 3 (L.take k) ++ []) := by
                refine ⟨?_, ?_, ?_⟩
                all_goals
                  rw [strm_succ _ L k hlt, hql]
                  rw [hhd]
                  simp [h0]
              clear hql hhd
              have hlim : (9223372036854775807 < x2.size + (l.length - 1)) = False := by simp; omega
              go_wp2
              all_goals
                go_roundw
                case rel =>
                  rw [HT.out]
                  refine ⟨k + 1, x1, _, rfl, rfl, by go_num, by omega, ?_, ?_, hbel, ?_⟩
                  all_goals try first | omega | (simp only [ByteArray.size_append, size_mk, List.length_tail]; omega)
                  refine ⟨?_, ?_, ?_⟩
                  · rw [HG.out.1, ← HS.out.1]; try simp
                  · rw [HG.out.2.1, ← HS.out.2.1]; try simp
                  · rw [HG.out.2.2, HS.out.2.2]; try simp
                case measure => simp [intOf]; omega
            · have HE := Lib.hid (getN_three L k hlt HO.out (by rw [hql]; show (l.headD 0).toNat = 3; rw [hhd]; exact h0))
              clear hql hhd
              go_wp2
              all_goals
                go_ret3
                exact ⟨by rw [HE.out]; rfl, hbel⟩
        · obtain rfl : k = L.length := by omega
          rw [List.take_length] at HS
          have HE := Lib.hid (show getN L = (x1.data.toList, x2.data.toList, 0) by rw [getN, if_pos HO.out, if_pos HS.out.2.2, HS.out.1, HS.out.2.1])
          go_wp2
          all_goals
            go_ret3
            rw [HE.out]
            refine ⟨?_, hbel⟩
            simp only [Lib.mk_data]
            rfl
end Go.Proofs.Ytominjooffecnaa.WBd
