/- Layer 3's reference: a sealed text, what a text opens to; the rows of the document's examples. -/
import Derived.Test.YtominjooffecnaaWCrcR
namespace Go.Proofs.Ytominjooffecnaa.WCrcR
open Go.RowKit Kn


set_option maxHeartbeats 400000 in
theorem seal_any (s : ByteArray) (w : World) (hs : s.size ≤ 1000) :
    Calls Try.prog 31 #[.string s] w fun e w' => e = .returned (.string ⟨(Crc.seal_ s.data.toList).toArray⟩) ∧ Below w.heap.size w w' := by
  have hl := Lib.hid (WCrc.tail4_eq _ (Crc.sum_lt s.data.toList))
  have hc := conv4 ((Crc.sum s.data.toList : Int) % 256) ((Crc.sum s.data.toList : Int) / 256 % 256) ((Crc.sum s.data.toList : Int) / 65536 % 256) ((Crc.sum s.data.toList : Int) / 16777216 % 256)
    (by omega) (by omega) (by omega) (by omega) (by omega) (by omega) (by omega) (by omega)
  go_enter Try.func31, Try.ntmps31
  go_wp2_with (go_at_call 29; refine (sum_any _ _ (by omega)).mono ?_; rintro e w' ⟨rfl, hb⟩)
  go_ret
  exact ⟨ret_bytes (by rw [cat_data]; simp only [Crc.seal_]; rw [← hl.out]), balloc hb _⟩

set_option maxHeartbeats 400000 in
theorem open_any (s : ByteArray) (w : World) (hs : s.size ≤ 1000) :
    Calls Try.prog 27 #[.string s] w fun e w' => e = .returned (.tuple #[.string ⟨(Crc.openN s.data.toList).1.toArray⟩, .int .i64 (Crc.openN s.data.toList).2]) ∧ Below w.heap.size w w' := by
  go_enter Try.func27, Try.ntmps27
  go_wp2_with (go_at_call 31; refine (seal_any _ _ (by go_simp; omega)).mono ?_; rintro e w' ⟨rfl, hb⟩)
  · have h4 : (s.size : Int) < 4 := by assumption
    go_ret2
    have e : Crc.openN s.data.toList = ([], 2) := by rw [Crc.openN, if_pos (by simp; omega)]
    exact ⟨by rw [e]; rfl, Below.refl _ _⟩
  · have h4 : (4 : Int) ≤ s.size := by assumption
    have hne : (!Crc.seal_ (List.take (s.size - 4) s.data.toList) == s.toList) = true := by assumption
    go_ret2
    have e : Crc.openN s.data.toList = ([], 5) := by
      rw [Crc.openN, if_neg (by simp; omega), if_neg]
      intro h
      rw [Lib.toList_data] at hne
      simp only [Array.length_toList, ByteArray.size_data] at h
      simp [h] at hne
    exact ⟨by rw [e]; rfl, hb⟩
  · have h4 : (4 : Int) ≤ s.size := by assumption
    have he : (!Crc.seal_ (List.take (s.size - 4) s.data.toList) == s.toList) = false := by assumption
    go_ret2
    have e : Crc.openN s.data.toList = (s.data.toList.take (s.size - 4), 0) := by
      rw [Crc.openN, if_neg (by simp; omega)]
      rw [Lib.toList_data] at he
      simp only [Bool.not_eq_false', beq_iff_eq] at he
      simp only [Array.length_toList, ByteArray.size_data]
      rw [if_pos he]
    exact ⟨by rw [e]; exact ret2 (by rw [Lib.extract_data]; simp) rfl, hb⟩

theorem knows_any (w : World) : Calls Try.prog 25 #[] w fun e w' => e = .returned (.bool true) ∧ Below w.heap.size w w' := by
  have k1 : Crc.openN [] = ([], 2) := by decide +kernel
  have k2 : Crc.openN [97, 98, 99, 100] = ([], 5) := by decide +kernel
  have k3 : Crc.openN (Crc.seal_ [120]) = ([120], 0) := Crc.open_seal _
  have k4 : Crc.sum [49, 50, 51, 52, 53, 54, 55, 56, 57] = 3421780262 := by decide +kernel
  go_enter Try.func25, Try.ntmps25
  go_wp2_with fail
  refine (WCrc.open_any _ _ (by decide)).mono ?_
  rintro e w1 ⟨rfl, hb1⟩
  go_wp2_with fail
  refine (WCrc.open_any _ _ (by decide)).mono ?_
  rintro e w2 ⟨rfl, hb2⟩
  go_wp2_with fail
  refine (WCrc.seal_any _ _ (by decide)).mono ?_
  rintro e w3 ⟨rfl, hb3⟩
  go_wp2_with fail
  refine (WCrc.open_any _ _ (by decide)).mono ?_
  rintro e w4 ⟨rfl, hb4⟩
  go_wp2_with fail
  refine (WCrc.sum_any _ _ (by decide)).mono ?_
  rintro e w5 ⟨rfl, rfl⟩
  go_wp2
  go_ret
  exact ⟨rfl, bnext (bnext (bnext hb1 hb2) hb3) hb4⟩
end Go.Proofs.Ytominjooffecnaa.WCrcR
