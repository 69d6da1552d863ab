/- The reference's Put; few. -/
import Derived.Test.YtominjooffecnaaWPkB
import Derived.Test.YtominjooffecnaaWPkP
namespace Go.Proofs.Ytominjooffecnaa.WPk
open Go.RowKit Kn

def putsR (L : List Pkt.Ln) : List UInt8 × Bool := match Pkt.puts L with | none => ([], false) | some s => (s, true)

theorem putsR_bad (L : List Pkt.Ln) (k : Nat) (h : k < L.length) (hf : Pkt.fine L[k] = false) : putsR L = ([], false) := by
  have : L.all Pkt.fine = false := by
    rw [List.all_eq_false]
    exact ⟨L[k], List.getElem_mem h, by rw [hf]; simp⟩
  rw [putsR, Pkt.puts, if_neg (by rw [this]; simp)]

theorem putsR_good (L : List Pkt.Ln) (h : L.all Pkt.fine = true) : putsR L = (L.flatMap Pkt.bytes, true) := by
  rw [putsR, Pkt.puts, if_pos h]

theorem ret_sb {a b : ByteArray} {x y : Bool} (h : a.data.toList = b.data.toList) (hx : x = y) : Ending.returned (.tuple #[.string a, .bool x]) = .returned (.tuple #[.string b, .bool y]) := by
  have : a = b := by rw [← Lib.mk_data a, ← Lib.mk_data b, h]
  rw [this, hx]

set_option maxRecDepth 100000 in
set_option maxHeartbeats 2000000 in
theorem putR_any (A : Option Addr) (cap : Nat) (L : List Pkt.Ln) (w : World) (hL : L.length ≤ 1000) (hcap : L.length ≤ cap) (hcm : cap ≤ 9223372036854775807) (hp : Pk w A L) (hload : ∀ i, (h : i < L.length) → (L[i]).load.length ≤ 5000) :
    Calls Try.prog 44 #[.slice A L.length cap] w fun e w' => e = .returned (.tuple #[.string ⟨(putsR L).1.toArray⟩, .bool (putsR L).2]) ∧ Below w.heap.size w w' := by
  have HL := Lib.hid hload
  clear hload
  go_enter Try.func44, Try.ntmps44
  go_wp2
  go_loopw [4, 5] (fun v i wr => ∃ (k : Nat) (out : ByteArray), k ≤ L.length ∧ i = .int .i64 k ∧ v = .string out ∧ out.size ≤ 1004 * k ∧ Hid (out.data.toList = (L.take k).flatMap Pkt.bytes ∧ (L.take k).all Pkt.fine = true) ∧ Below w.heap.size w wr) (fun _ i _ => L.length - (intOf i).toNat)
  case atStart => exact ⟨0, ⟨#[]⟩, Nat.zero_le _, rfl, rfl, Nat.zero_le _, ⟨rfl, rfl⟩, Below.refl _ _⟩
  case round =>
    obtain ⟨k, out, hk, rfl, rfl, hos, HO, hbel⟩ := hrel
    by_cases hlt : k < L.length
    · have hp' := hp.below hbel
      rcases hp' with h0 | ⟨b, off, rfl, hbw, hc⟩
      · rw [h0] at hlt; simp at hlt
      · obtain ⟨hc1, hc2⟩ := hc k hlt
        have hlt' : (k : Int) < (L.length : Int) := by omega
        have hk0 : (0 : Int) ≤ (k : Int) := by omega
        have hl5 := HL.out k hlt
        have HF := Lib.hid (putsR_bad L k hlt)
        have HA := Lib.hid (fun h => all_take_succ L k hlt HO.out.2 h)
        have HT := Lib.hid (flat_take_succ L k hlt)
        clear hc
        obtain ⟨q, hql⟩ : ∃ q, q = L[k] := ⟨_, rfl⟩
        rw [← hql] at hc1 hc2 hl5 HF HA HT
        have HQ := Lib.hid hql
        clear hql
        have hfa := fine_any q
        go_wp2_with fail
        refine (hfa _ (by omega)).mono ?_
        rintro e w1 ⟨rfl, hb1⟩
        have hbel1 := bnext hbel hb1
        have hd1 := hb1.cell (p := ⟨b, off + k * 2, none⟩) hbw
        have hd2 := hb1.cell (p := ⟨b, off + k * 2 + 1, none⟩) hbw
        rw [hc1] at hd1
        rw [hc2] at hd2
        clear hfa hc1 hc2 hbel hb1
        cases hf : Pkt.fine q
        · have HE := Lib.hid (HF.out hf)
          clear hf
          go_wp2
          go_ret2
          exact ⟨by rw [HE.out]; rfl, hbel1⟩
        · have HFF := Lib.hid hf
          have hl1 : q.load.length ≤ 1000 := by
            simp only [Pkt.fine, Bool.or_eq_true, Bool.and_eq_true, decide_eq_true_eq, List.isEmpty_iff] at hf
            rcases hf with ⟨_, h⟩ | ⟨_, h⟩
            · exact h
            · rw [h]; simp
          have hble := Pkt.bytes_le hf
          clear hf
          have hba := bytes_any q
          go_wp2_with fail
          refine (hba _ hl1 HFF.out).mono ?_
          rintro e w2 ⟨rfl, hb2⟩
          have hbel2 := bnext hbel1 hb2
          have hsz : (⟨(Pkt.bytes q).toArray⟩ : ByteArray).size ≤ 1004 := by rw [size_mk]; exact hble
          clear hba hd1 hd2 hbel1 hb2
          go_wp2
          go_roundw
          case rel =>
            refine ⟨k + 1, _, by omega, by go_num, rfl, ?_, ⟨?_, HA.out HFF.out⟩, hbel2⟩
            · rw [ByteArray.size_append]; omega
            · rw [cat_data, HT.out, HO.out.1]
          case measure => simp [intOf]; omega
    · obtain rfl : k = L.length := by omega
      have HG := Lib.hid (putsR_good L (by have := HO.out.2; rwa [List.take_length] at this))
      have HO2 := Lib.hid (show out.data.toList = L.flatMap Pkt.bytes by have := HO.out.1; rwa [List.take_length] at this)
      clear HO
      go_wp2
      go_ret2
      exact ⟨ret_sb (by rw [HG.out, HO2.out]) (by rw [HG.out]), hbel⟩

def fewB (L : List Pkt.Ln) : Bool := (L.take 30).all (fun p => decide (p.load.length ≤ 1100)) && decide (L.length ≤ 30)

theorem fewB_bad (L : List Pkt.Ln) (k : Nat) (h : k < L.length) (hk : k < 30) (hf : 1100 < L[k].load.length) : fewB L = false := by
  have : (L.take 30).all (fun p => decide (p.load.length ≤ 1100)) = false := by
    rw [List.all_eq_false]
    have hk' : k < (L.take 30).length := by simp; omega
    refine ⟨(L.take 30)[k], List.getElem_mem hk', ?_⟩
    rw [List.getElem_take]
    simp; omega
  rw [fewB, this]; rfl

theorem fewB_true {L : List Pkt.Ln} (h : fewB L = true) : L.length ≤ 30 ∧ ∀ i, (h : i < L.length) → L[i].load.length ≤ 1100 := by
  simp only [fewB, Bool.and_eq_true, decide_eq_true_eq, List.all_eq_true] at h
  refine ⟨h.2, fun i hi => ?_⟩
  rw [List.take_of_length_le h.2] at h
  exact h.1 _ (List.getElem_mem hi)

set_option maxRecDepth 100000 in
set_option maxHeartbeats 2000000 in
theorem few_any (A : Option Addr) (cap : Nat) (L : List Pkt.Ln) (w : World) (hcap : L.length ≤ cap) (hcm : cap ≤ 9223372036854775807) (hp : Pk w A L) (hload : ∀ i, (h : i < L.length) → (L[i]).load.length ≤ 9223372036854775807) :
    Calls Try.prog 41 #[.slice A L.length cap] w fun e w' => e = .returned (.bool (fewB L)) ∧ w = w' := by
  have HL := Lib.hid hload
  clear hload
  go_enter Try.func41, Try.ntmps41
  go_wp2
  go_loop [3] (fun i => ∃ (k : Nat), k ≤ L.length ∧ k ≤ 30 ∧ i = .int .i64 k ∧ Hid (∀ i, (h : i < L.length) → i < k → L[i].load.length ≤ 1100)) (fun i => 30 - (intOf i).toNat)
  case atStart => exact ⟨0, Nat.zero_le _, by omega, rfl, fun i _ h => absurd h (by omega)⟩
  case round =>
    obtain ⟨k, hk, hk30, rfl, HK⟩ := hrel
    by_cases hlt : k < L.length ∧ k < 30
    · obtain ⟨hlt, h30⟩ := hlt
      rcases hp with h0 | ⟨b, off, rfl, hbw, hc⟩
      · rw [h0] at hlt; simp at hlt
      · obtain ⟨hc1, hc2⟩ := hc k hlt
        have hlt' : (k : Int) < (L.length : Int) := by omega
        have hk0 : (0 : Int) ≤ (k : Int) := by omega
        have hl5 := HL.out k hlt
        have HB := Lib.hid (fewB_bad L k hlt h30)
        clear hc
        by_cases hbig : 1100 < L[k].load.length
        · have HE := Lib.hid (HB.out hbig)
          go_wp2
          go_ret
          exact ⟨by rw [HE.out]; rfl, rfl⟩
        · have HN : Hid (∀ i, (h : i < L.length) → i < k + 1 → L[i].load.length ≤ 1100) := by
            intro i hi hik
            by_cases e : i = k
            · subst e; omega
            · exact HK.out i hi (by omega)
          clear HK
          go_wp2
          go_round
          case rel => exact ⟨k + 1, by omega, by omega, by go_num, HN⟩
          case measure => simp [intOf]; omega
    · have HE : Hid (fewB L = decide ((L.length : Int) ≤ 30)) := by
        show _ = _
        have h2 : (L.take 30).all (fun p => decide (p.load.length ≤ 1100)) = true := by
          rw [List.all_eq_true]
          intro p hp
          obtain ⟨i, hi, rfl⟩ := List.getElem_of_mem hp
          rw [List.getElem_take]
          simp only [List.length_take] at hi
          simp only [decide_eq_true_eq]
          exact HK.out i (by omega) (by omega)
        rw [fewB, h2, Bool.true_and]
        rw [Bool.eq_iff_iff]; simp; omega
      clear HK
      rcases Nat.lt_or_ge k L.length with h | h
      · have h2 : 30 ≤ k := by omega
        clear hlt
        go_wp2
        go_ret
        exact ⟨by rw [HE.out]; rfl, rfl⟩
      · clear hlt
        go_wp2
        go_ret
        exact ⟨by rw [HE.out]; rfl, rfl⟩
end Go.Proofs.Ytominjooffecnaa.WPk
