/- What layer 1's Put and Text compute, the program's and the reference's. -/
import Derived.Test.YtominjooffecnaaKit
import Derived.Test.YtominjooffecnaaPVi
import Derived.Test.YtominjooffecnaaApp
namespace Go.Proofs.Ytominjooffecnaa.WVi
open Go.RowKit Kn

theorem or128 (x : Nat) (h : x < 256) : x ||| 128 = 128 + x % 128 := by
  have : ∀ x, x < 256 → x ||| 128 = 128 + x % 128 := by decide +kernel
  exact this x h

theorem or128_int (m : Nat) : bits BinOp.or IntKind.u8 ((m : Int) % 256) 128 = ((128 + m % 128 : Nat) : Int) := by
  have h := u8_or_nat (m % 256) 128 (by omega) (by omega)
  rw [or128 _ (by omega)] at h
  rw [show 128 + m % 256 % 128 = 128 + m % 128 from by omega] at h
  rw [← h, Int.natCast_emod]
  rfl

theorem putF_step {k m : Nat} (hm : 128 ≤ m) (hk : m < 2 * 128 ^ k) : ∃ j, k = j + 1 ∧ m / 128 < 2 * 128 ^ j ∧ Vi.putF k m = UInt8.ofNat (128 + m % 128) :: Vi.putF j (m / 128) := by
  cases k with
  | zero => simp at hk; omega
  | succ j =>
    refine ⟨j, rfl, ?_, ?_⟩
    · rw [Nat.pow_succ] at hk; omega
    · rw [Vi.putF, if_neg (by omega)]
theorem putF_end {k m : Nat} (hm : m < 128) : Vi.putF k m = [UInt8.ofNat m] := by
  cases k with
  | zero => rfl
  | succ j => rw [Vi.putF, if_pos hm]

set_option maxRecDepth 100000 in
set_option maxHeartbeats 400000 in
theorem put_any (n : Nat) (hn : n < 18446744073709551616) (w : World) :
    Calls Try.prog 32 #[.int .u64 n] w fun e w' => e = .returned (.string ⟨(Vi.put n).toArray⟩) ∧ Below w.heap.size w w' := by
  obtain ⟨i5, hi5, hz5, hs5, hb5⟩ := info_parts info5
  have HN : Hid (n < 2 * 128 ^ 9) := by show n < _; omega
  clear hn
  go_enter Try.func32, Try.ntmps32
  go_wp2
  go_loopw [0, 3] (fun a v wr => ∃ (m k : Nat) (out : List UInt8), out.length ≤ 9 - k ∧ k ≤ 9 ∧ a = .int .u64 m ∧ Hid (m < 2 * 128 ^ k) ∧ Hid (out ++ Vi.putF k m = Vi.put n) ∧ wr.ownsRow w.heap.size 5 1 v out.length (bytesV out) ∧ Below w.heap.size w wr) (fun a _ _ => (intOf a).toNat)
  case atStart => exact ⟨n, 9, [], by simp, by omega, rfl, HN, rfl, World.ownsRow_nil _ _ _ _, Below.refl _ _⟩
  case round =>
    obtain ⟨m, k, out, hol, hk, rfl, hm, ho, hown, hbel⟩ := hrel
    by_cases hlt : 128 ≤ m
    · obtain ⟨j, hj1, hj2, hj3⟩ := putF_step hlt hm.out
      have HO := Lib.hid (or128_int m)
      have HJ := Lib.hid hj1
      have HJ2 := Lib.hid hj2
      have HJ3 := Lib.hid hj3
      clear hj1 hj2 hj3
      go_wp2_with (at_builtin; refine wpList_append_new _ _ rfl _ _ 52 rfl w.heap.size 5 i5 (.int .u8 0) 1 1 Try.underlying52 hi5 hz5 hs5 hb5 rfl (by decide) _ _ _ hown rfl 1 rfl rfl rfl (by unfold maxLen; omega) (by omega) hbel.size ?_)
      intro v' w1 hown' hgrow _
      have hbel' := hbel.grown hgrow hbel.size (ownBlock_ge hown)
      clear hown hgrow hbel
      go_wp2
      go_roundw
      case rel =>
        have hk1 := HJ.out
        refine ⟨m / 128, j, out ++ [UInt8.ofNat (128 + m % 128)], by simp; omega, by omega, by go_num, HJ2.out, ?_, ?_, hbel'⟩
        · show _ = _
          rw [List.append_assoc, ← ho.out, HJ3.out]; rfl
        · have e : bytesV out ++ [Value.int IntKind.u8 (bits BinOp.or IntKind.u8 ((m : Int) % 256) 128)] = bytesV (out ++ [UInt8.ofNat (128 + m % 128)]) := by
            rw [bytesV_append, HO.out]
            simp only [bytesV, List.map_cons, List.map_nil]
            rw [Vi.toNat_ofNat' (by omega)]
          rw [e] at hown'
          simpa using hown'
      case measure => simp [intOf]; omega
    · go_wp2_with (at_builtin; refine wpList_append_new _ _ rfl _ _ 52 rfl w.heap.size 5 i5 (.int .u8 0) 1 1 Try.underlying52 hi5 hz5 hs5 hb5 rfl (by decide) _ _ _ hown rfl 1 rfl rfl rfl (by unfold maxLen; omega) (by omega) hbel.size ?_)
      intro v' w1 hown' hgrow _
      have hbel' := hbel.grown hgrow hbel.size (ownBlock_ge hown)
      clear hown hgrow hbel
      obtain ⟨g, cap, hv, _, _, _⟩ := own_form hown' (by omega)
      subst hv
      have e : bytesV out ++ [Value.int IntKind.u8 (m : Int)] = bytesV (out ++ [UInt8.ofNat m]) := by
        rw [bytesV_append]
        simp only [bytesV, List.map_cons, List.map_nil]
        rw [Vi.toNat_ofNat' (by omega)]
      rw [e] at hown'
      have hcv := conv_own hown'
      have HP : Hid (out ++ [UInt8.ofNat m] = Vi.put n) := by rw [← ho.out, putF_end (by omega)]; rfl
      clear hown' e ho
      go_wp2
      go_ret
      exact ⟨ret_bytes (by rw [← HP.out]), hbel'⟩

theorem byte_at (m : Nat) : toU8 ((128 + (m : Int) % 128)) = UInt8.ofNat (128 + m % 128) := by
  unfold toU8
  congr 1

set_option maxRecDepth 100000 in
set_option maxHeartbeats 400000 in
theorem putR_any (n : Nat) (hn : n < 18446744073709551616) (w : World) :
    Calls Try.prog 33 #[.int .u64 n] w fun e w' => e = .returned (.string ⟨(Vi.put n).toArray⟩) ∧ Below w.heap.size w w' := by
  have HN : Hid (n < 2 * 128 ^ 9) := by show n < _; omega
  go_enter Try.func33, Try.ntmps33
  go_wp2
  go_loopw [0, 3] (fun a v wr => ∃ (m k : Nat) (out : ByteArray), out.size ≤ 9 - k ∧ k ≤ 9 ∧ a = .int .u64 m ∧ Hid (m < 2 * 128 ^ k) ∧ m < 18446744073709551616 ∧ Hid (out.data.toList ++ Vi.putF k m = Vi.put n) ∧ v = .string out ∧ Below w.heap.size w wr) (fun a _ _ => (intOf a).toNat)
  case atStart => exact ⟨n, 9, ⟨#[]⟩, Nat.zero_le _, by omega, rfl, HN, by omega, rfl, rfl, Below.refl _ _⟩
  case round =>
    obtain ⟨m, k, out, hol, hk, rfl, hm, hm64, ho, rfl, hbel⟩ := hrel
    by_cases hlt : 128 ≤ m
    · obtain ⟨j, hj1, hj2, hj3⟩ := putF_step hlt hm.out
      have HJ := Lib.hid hj1
      have HJ2 := Lib.hid hj2
      have HJ3 := Lib.hid hj3
      clear hj1 hj2 hj3
      have hc := conv1 (128 + (m : Int) % 128) (by omega) (by omega)
      go_wp2
      go_roundw
      case rel =>
        have hk1 := HJ.out
        refine ⟨m / 128, j, _, ?_, by omega, by go_num, HJ2.out, by omega, ?_, rfl, balloc hbel _⟩
        · rw [ByteArray.size_append, show (⟨#[toU8 (128 + (m : Int) % 128)]⟩ : ByteArray).size = 1 from rfl]; omega
        · show _ = _
          rw [cat_data, List.append_assoc, ← ho.out, HJ3.out, byte_at]; rfl
      case measure => simp [intOf]; omega
    · have hc := conv1 (m : Int) (by omega) (by omega)
      go_wp2
      go_ret
      exact ⟨ret_bytes (by rw [cat_data, ← ho.out, putF_end (by omega)]; simp [toU8]), balloc hbel _⟩

set_option maxHeartbeats 400000 in
theorem text_any (t : ByteArray) (ht : t.size ≤ 9223372036854775000) (w : World) :
    Calls Try.prog 34 #[.string t] w fun e w' => e = .returned (.string ⟨(Vi.text t.data.toList).toArray⟩) ∧ Below w.heap.size w w' := by
  have hle := Vi.put_le t.size
  go_enter Try.func34, Try.ntmps34
  go_wp2_with fail
  refine (put_any _ (by omega) _).mono ?_
  rintro e w1 ⟨rfl, hb1⟩
  go_wp2
  go_ret
  exact ⟨ret_bytes (by rw [cat_data]; simp [Vi.text]), hb1⟩

set_option maxHeartbeats 400000 in
theorem textR_any (t : ByteArray) (ht : t.size ≤ 9223372036854775000) (w : World) :
    Calls Try.prog 35 #[.string t] w fun e w' => e = .returned (.string ⟨(Vi.text t.data.toList).toArray⟩) ∧ Below w.heap.size w w' := by
  have hle := Vi.put_le t.size
  go_enter Try.func35, Try.ntmps35
  go_wp2_with fail
  refine (putR_any _ (by omega) _).mono ?_
  rintro e w1 ⟨rfl, hb1⟩
  go_wp2
  go_ret
  exact ⟨ret_bytes (by rw [cat_data]; simp [Vi.text]), hb1⟩
end Go.Proofs.Ytominjooffecnaa.WVi
