import Derived.Test.YtominjooffecnaaKit
import Derived.Test.YtominjooffecnaaPCrc
namespace Go.Proofs.Ytominjooffecnaa.WCrc
open Go.RowKit Kn

theorem steps_succ : ∀ (k c : Nat), Crc.steps (k + 1) c = Crc.step (Crc.steps k c) := by
  intro k
  induction k with
  | zero => intro c; rfl
  | succ k ih => intro c; exact ih (Crc.step c)

theorem xor_byte (R : Nat) (b : UInt8) (hR : R < 4294967296) : bits BinOp.xor IntKind.u32 (R : Int) ((b.toNat : Int) % 4294967296) = ((R ^^^ b.toNat : Nat) : Int) := by
  have := b.toNat_lt
  rw [show (b.toNat : Int) % 4294967296 = (b.toNat : Int) from by omega]
  exact u32_xor_nat _ _ hR (by omega)

theorem not32 (R : Nat) (h : R < 4294967296) : 4294967295 ^^^ R = 4294967295 - R := by
  refine Nat.eq_of_testBit_eq fun i => ?_
  rw [Nat.testBit_xor, show 4294967295 = 2 ^ 32 - 1 from rfl, Nat.testBit_two_pow_sub_one, show 2 ^ 32 - 1 - R = 2 ^ 32 - (R + 1) from by omega, Nat.testBit_two_pow_sub_succ (by omega)]
  by_cases hi : i < 32
  · simp [hi]
  · have : R.testBit i = false := Nat.testBit_lt_two_pow (Nat.lt_of_lt_of_le h (Nat.pow_le_pow_right (n := 2) (by omega) (show 32 ≤ i by omega)))
    simp [hi, this]

theorem sum_end (s : ByteArray) (hR : Crc.run 4294967295 (List.take s.size s.data.toList) < 4294967296) :
    bits BinOp.xor IntKind.u32 IntKind.u32.max (Crc.run 4294967295 (List.take s.size s.data.toList) : Nat) = (Crc.sum s.data.toList : Nat) := by
  have e : List.take s.size s.data.toList = s.data.toList := List.take_of_length_le (by simp)
  rw [e] at hR ⊢
  have h := u32_xor_nat 4294967295 _ (by omega) hR
  rw [not32 _ hR] at h
  exact h

set_option maxHeartbeats 400000 in
theorem sum_any (s : ByteArray) (w : World) (hs : s.size ≤ 9223372036854775807) :
    Calls Try.prog 28 #[.string s] w fun e w' => e = .returned (.int .u32 (Crc.sum s.data.toList)) ∧ w = w' := by
  go_enter Try.func28, Try.ntmps28
  go_wp2
  go_loop [3, 8] (fun c i => ∃ k : Nat, k ≤ s.size ∧ i = .int .i64 k ∧ c = .int .u32 (Crc.run 4294967295 (s.data.toList.take k) : Nat)) (fun _ i => s.size - (intOf i).toNat)
  case atStart => exact ⟨0, Nat.zero_le _, rfl, rfl⟩
  case round =>
    obtain ⟨k, hk, rfl, rfl⟩ := hrel
    by_cases hlt : k < s.size
    · have hR := Crc.run_lt (s.data.toList.take k) (c := 4294967295) (by omega)
      have HX := Lib.hid (xor_byte (Crc.run 4294967295 (s.data.toList.take k)) s[k] hR)
      go_wp2
      go_loop [3, 17] (fun c i => ∃ (j c1 : Nat), j ≤ 8 ∧ i = .int .i64 j ∧ c = .int .u32 (c1 : Nat) ∧ c1 < 4294967296 ∧ Hid (Crc.steps (8 - j) c1 = Crc.run 4294967295 (s.data.toList.take (k + 1)))) (fun _ i => 8 - (intOf i).toNat)
      case atStart => exact ⟨0, _, by omega, rfl, val_int HX.out, Crc.xor_lt hR (by have := s[k].toNat_lt; omega), by
          show Crc.steps 8 _ = _
          rw [take_snoc s k hlt, Crc.run_append]; rfl⟩
      case round =>
        obtain ⟨j, c1, hj, rfl, rfl, hc1, hS⟩ := hrel
        by_cases hj8 : j < 8
        · have hA := u32_and_nat c1 1 hc1 (by omega)
          rw [nat_mask1] at hA
          have hX := u32_xor_nat (c1 / 2) 3988292384 (by omega) (by omega)
          have hstep : Crc.steps (8 - j) c1 = Crc.steps (8 - (j + 1)) (Crc.step c1) := by
            rw [show 8 - j = (8 - (j + 1)) + 1 from by omega]; rfl
          have HA := Lib.hid hA
          have HX2 := Lib.hid hX
          have HS := Lib.hid hstep
          clear hA hX hstep
          go_wp2
          · have ht : (bits BinOp.and IntKind.u32 (↑c1) 1 == 1) = true := by assumption
            go_round
            case rel =>
              have h1 : c1 % 2 = 1 := by
                have := HA.out
                simp at ht
                rw [show ((1 : Nat) : Int) = 1 from rfl] at this
                omega
              refine ⟨j + 1, Crc.step c1, by omega, by go_num, ?_, Crc.step_lt hc1, ?_⟩
              · rw [Crc.step, if_pos h1]
                exact val_int HX2.out
              · exact HS.out ▸ hS.out
            case measure => simp [intOf]; omega
          · have ht : (bits BinOp.and IntKind.u32 (↑c1) 1 == 1) = false := by assumption
            go_round
            case rel =>
              have h1 : ¬ c1 % 2 = 1 := by
                have := HA.out
                simp at ht
                rw [show ((1 : Nat) : Int) = 1 from rfl] at this
                omega
              refine ⟨j + 1, Crc.step c1, by omega, by go_num, ?_, Crc.step_lt hc1, ?_⟩
              · rw [Crc.step, if_neg h1]
                exact val_int (by omega)
              · exact HS.out ▸ hS.out
            case measure => simp [intOf]; omega
        · obtain rfl : j = 8 := by omega
          have hS' : c1 = Crc.run 4294967295 (s.data.toList.take (k + 1)) := hS.out
          have HS' := Lib.hid hS'
          clear hS hS'
          go_wp2
          go_round
          case rel => exact ⟨k + 1, by omega, by go_num, val_int (by rw [← HS'.out])⟩
          case measure => simp [intOf]; omega
    · obtain rfl : k = s.size := by omega
      have hR := Crc.run_lt (s.data.toList.take s.size) (c := 4294967295) (by omega)
      go_wp2
      go_ret
      exact ⟨ret_int (sum_end s hR), rfl⟩

theorem tail4_eq (n : Nat) (hn : n < 4294967296) : [toU8 ((n : Int) % 256), toU8 ((n : Int) / 256 % 256), toU8 ((n : Int) / 65536 % 256), toU8 ((n : Int) / 16777216 % 256)] = Crc.tail4 n := by
  unfold toU8 Crc.tail4
  rw [show ((n : Int) % 256).toNat = n % 256 from by omega, show ((n : Int) / 256 % 256).toNat = n / 256 % 256 from by omega, show ((n : Int) / 65536 % 256).toNat = n / 65536 % 256 from by omega,
    show ((n : Int) / 16777216 % 256).toNat = n / 16777216 from by omega]

set_option maxHeartbeats 400000 in
theorem seal_any (s : ByteArray) (w : World) (hs : s.size ≤ 9223372036854775000) :
    Calls Try.prog 30 #[.string s] w fun e w' => e = .returned (.string ⟨(Crc.seal_ s.data.toList).toArray⟩) ∧ Below w.heap.size w w' := by
  have hl := Lib.hid (tail4_eq _ (Crc.sum_lt s.data.toList))
  have hc := conv4 ((Crc.sum s.data.toList : Int) % 256) ((Crc.sum s.data.toList : Int) / 256 % 256) ((Crc.sum s.data.toList : Int) / 65536 % 256) ((Crc.sum s.data.toList : Int) / 16777216 % 256)
    (by omega) (by omega) (by omega) (by omega) (by omega) (by omega) (by omega) (by omega)
  go_enter Try.func30, Try.ntmps30
  go_wp2_with (go_at_call 28; refine (sum_any _ _ (by omega)).mono ?_; rintro e w' ⟨rfl, rfl⟩)
  go_ret
  exact ⟨ret_bytes (by rw [cat_data]; simp only [Crc.seal_]; rw [← hl.out]), (Below.refl _ _).alloc (Nat.le_refl _) _⟩

set_option maxHeartbeats 400000 in
theorem open_any (s : ByteArray) (w : World) (hs : s.size ≤ 9223372036854775000) :
    Calls Try.prog 26 #[.string s] w fun e w' => e = .returned (.tuple #[.string ⟨(Crc.openN s.data.toList).1.toArray⟩, .int .i64 (Crc.openN s.data.toList).2]) ∧ Below w.heap.size w w' := by
  go_enter Try.func26, Try.ntmps26
  go_wp2_with (go_at_call 30; refine (seal_any _ _ (by go_simp; omega)).mono ?_; rintro e w' ⟨rfl, hb⟩)
  · have h4 : (s.size : Int) < 4 := by assumption
    go_ret2
    have e : Crc.openN s.data.toList = ([], 2) := by rw [Crc.openN, if_pos (by simp; omega)]
    exact ⟨by rw [e]; rfl, Below.refl _ _⟩
  · have h4 : (4 : Int) ≤ s.size := by assumption
    have hne : (!Crc.seal_ (List.take (s.size - 4) s.data.toList) == s.toList) = true := by assumption
    go_ret2
    have e : Crc.openN s.data.toList = ([], 5) := by
      rw [Crc.openN, if_neg (by simp; omega), if_neg]
      intro h
      rw [Lib.toList_data] at hne
      simp only [Array.length_toList, ByteArray.size_data] at h
      simp [h] at hne
    exact ⟨by rw [e]; rfl, hb⟩
  · have h4 : (4 : Int) ≤ s.size := by assumption
    have he : (!Crc.seal_ (List.take (s.size - 4) s.data.toList) == s.toList) = false := by assumption
    go_ret2
    have e : Crc.openN s.data.toList = (s.data.toList.take (s.size - 4), 0) := by
      rw [Crc.openN, if_neg (by simp; omega)]
      rw [Lib.toList_data] at he
      simp only [Bool.not_eq_false', beq_iff_eq] at he
      simp only [Array.length_toList, ByteArray.size_data]
      rw [if_pos he]
    exact ⟨by rw [e]; exact ret2 (by rw [Lib.extract_data]; simp) rfl, hb⟩
end Go.Proofs.Ytominjooffecnaa.WCrc
