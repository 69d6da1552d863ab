/- What layer 1's Get computes. -/
import Derived.Test.YtominjooffecnaaWVi
import Derived.RegionTactic
import Derived.Lib.MinMax
namespace Go.Proofs.Ytominjooffecnaa.WVi
open Go.RowKit Kn

theorem ret3 {b c : ByteArray} {k k' : IntKind} {x y x' y' : Int} (hx : x = y) (h : b.data.toList = c.data.toList) (hx' : x' = y') :
    Ending.returned (.tuple #[.int k x, .string b, .int k' x']) = .returned (.tuple #[.int k y, .string c, .int k' y']) := by
  have : b = c := by rw [← Lib.mk_data b, ← Lib.mk_data c, h]
  rw [this, hx, hx']

/-- what Get gives: the number, what stands behind it, the error -/
def getN (s : List UInt8) : Nat × List UInt8 × Nat := match Vi.get s with
  | none => (0, [], 2)
  | some (n, r) => (n, r, 0)

theorem drop_at (s : ByteArray) (k : Nat) (h : k < s.size) : s.data.toList.drop k = s[k] :: s.data.toList.drop (k + 1) := by
  rw [List.drop_eq_getElem_cons (by simpa using h)]; rfl

theorem getF_at (s : ByteArray) (k acc : Nat) (h : k < s.size) (hk : k < 10) : Vi.getF (10 - k) k acc (s.data.toList.drop k) =
    if k = 9 ∧ 1 < s[k].toNat then none
    else if 128 ≤ s[k].toNat then Vi.getF (10 - (k + 1)) (k + 1) (acc + (s[k].toNat % 128) * 128 ^ k) (s.data.toList.drop (k + 1))
    else if s[k].toNat = 0 ∧ 0 < k then none
    else some (acc + s[k].toNat * 128 ^ k, s.data.toList.drop (k + 1)) := by
  rw [drop_at s k h, show 10 - k = (9 - k) + 1 from by omega, Vi.getF, show 10 - (k + 1) = 9 - k from by omega]
  have : (9 - k = 0) ↔ k = 9 := by omega
  simp only [this]

theorem pow_128 (k : Nat) : 2 ^ (7 * k) = 128 ^ k := by rw [Nat.pow_mul]

theorem acc_lt (c k acc : Nat) (hk : k < 10) (h9 : k = 9 → c % 128 ≤ 1) (ha : acc < 128 ^ k) : acc + c % 128 * 128 ^ k < 18446744073709551616 := by
  have : k = 0 ∨ k = 1 ∨ k = 2 ∨ k = 3 ∨ k = 4 ∨ k = 5 ∨ k = 6 ∨ k = 7 ∨ k = 8 ∨ k = 9 := by omega
  rcases this with rfl | rfl | rfl | rfl | rfl | rfl | rfl | rfl | rfl | rfl <;> simp only [Nat.reducePow] at ha ⊢ <;> omega

theorem acc_step (c k acc : Nat) (hc : c < 256) (hk : k < 10) (h9 : k = 9 → c % 128 ≤ 1) (ha : acc < 128 ^ k) :
    bits BinOp.or IntKind.u64 (acc : Int) (IntKind.u64.wrap (IntKind.u64.wrap (bits BinOp.and IntKind.u8 (c : Int) 127) * 2 ^ (7 * k))) = ((acc + c % 128 * 128 ^ k : Nat) : Int) := by
  have hl := acc_lt c k acc hk h9 ha
  have h1 := u8_and_nat c 127 hc (by omega)
  rw [nat_mask7] at h1
  rw [show ((127 : Nat) : Int) = 127 from rfl] at h1
  have h2 : IntKind.u64.wrap ((c % 128 : Nat) : Int) = ((c % 128 : Nat) : Int) := by
    simp only [IntKind.wrap, IntKind.bits, IntKind.signed]
    simp
    omega
  have h3 : ((c % 128 : Nat) : Int) * 2 ^ (7 * k) = ((c % 128 * 128 ^ k : Nat) : Int) := by
    rw [← pow_128, Int.natCast_mul, Int.natCast_pow]; rfl
  have h4 : IntKind.u64.wrap ((c % 128 * 128 ^ k : Nat) : Int) = ((c % 128 * 128 ^ k : Nat) : Int) := by
    have : c % 128 * 128 ^ k < 18446744073709551616 := by omega
    generalize c % 128 * 128 ^ k = x at this
    simp only [IntKind.wrap, IntKind.bits, IntKind.signed]
    simp
    omega
  rw [h1, h2, h3, h4, u64_or_nat _ _ (by omega) (by omega), Nat.or_comm, nat_join (7 * k) _ _ (by rw [pow_128]; exact Nat.mul_mod_left _ _) (by rw [pow_128]; exact ha), Nat.add_comm]

set_option maxRecDepth 100000 in
set_option maxHeartbeats 1000000 in
theorem get_any (s : ByteArray) (hs : s.size ≤ 9223372036854775807) (w : World) :
    Calls Try.prog 36 #[.string s] w fun e w' => e = .returned (.tuple #[.int .u64 (getN s.data.toList).1, .string ⟨(getN s.data.toList).2.1.toArray⟩, .int .i64 (getN s.data.toList).2.2]) ∧ Below w.heap.size w w' := by
  go_enter Try.func36, Try.ntmps36
  go_wp2
  go_loop [5, 11] (fun n i => ∃ (k acc : Nat), k ≤ 10 ∧ k ≤ s.size ∧ i = .int .i64 k ∧ n = .int .u64 acc ∧ Hid (acc < 128 ^ k) ∧ Hid (Vi.getF (10 - k) k acc (s.data.toList.drop k) = Vi.get s.data.toList)) (fun _ i => 10 - (intOf i).toNat)
  case atStart => exact ⟨0, 0, by omega, by omega, rfl, rfl, by show 0 < _; simp, rfl⟩
  case round =>
    obtain ⟨k, acc, hk, hks, rfl, rfl, hacc, hget⟩ := hrel
    by_cases hlt : k < 10 ∧ k < s.size
    · obtain ⟨h10, hsz⟩ := hlt
      have HG := Lib.hid (getF_at s k acc hsz h10)
      have hu := s[k].toNat_lt
      have HA : Hid ((k = 9 → s[k].toNat % 128 ≤ 1) → bits BinOp.or IntKind.u64 (acc : Int) (IntKind.u64.wrap (IntKind.u64.wrap (bits BinOp.and IntKind.u8 (s[k].toNat : Int) 127) * 2 ^ (7 * k))) = ((acc + s[k].toNat % 128 * 128 ^ k : Nat) : Int)) :=
        fun h => acc_step s[k].toNat k acc hu h10 h hacc.out
      have hk64 : IntKind.i64.wrap ((k : Int) + 1) = (k : Int) + 1 := by rw [IntKind.wrap_i64]; omega
      have HW := Lib.hid hk64
      clear hk64
      by_cases h9 : k = 9 ∧ 1 < s[k].toNat
      · obtain ⟨h9, hc1⟩ := h9
        have hk9 : ((k : Int) == 9) = true := by simp; omega
        have hr : getN s.data.toList = (0, [], 2) := by
          have := hget.out
          rw [HG.out, if_pos ⟨h9, hc1⟩] at this
          rw [getN, ← this]
        have HR := Lib.hid hr
        clear hr h9
        go_wp2
        go_ret3
        exact ⟨by rw [HR.out]; rfl, Below.refl _ _⟩
      · have hc9 : k = 9 → s[k].toNat ≤ 1 := by omega
        have HA2 := Lib.hid (HA.out (fun h => by have := hc9 h; omega))
        have HC9 := Lib.hid hc9
        have hz9 : ((k : Int) == 9) = false ∨ (((k : Int) == 9) = true ∧ s[k].toNat ≤ 1) := by
          by_cases h : k = 9
          · exact .inr ⟨by simp; omega, hc9 h⟩
          · exact .inl (by simp; omega)
        have hget2 : Hid ((if 128 ≤ s[k].toNat then Vi.getF (10 - (k + 1)) (k + 1) (acc + (s[k].toNat % 128) * 128 ^ k) (s.data.toList.drop (k + 1))
            else if s[k].toNat = 0 ∧ 0 < k then none
            else some (acc + s[k].toNat * 128 ^ k, s.data.toList.drop (k + 1))) = Vi.get s.data.toList) := by
          show _ = _
          rw [← hget.out, HG.out, if_neg h9]
        clear h9 hc9 HA HG hget
        by_cases hc : 128 ≤ s[k].toNat
        · have hz : ((k : Int) == 9) = false := by
            rcases hz9 with h | h
            · exact h
            · omega
          clear hz9
          have hne9 : k < 9 := by simp at hz; omega
          go_wp2
          go_round
          case rel =>
            refine ⟨k + 1, acc + s[k].toNat % 128 * 128 ^ k, by omega, by omega, by go_num, val_int HA2.out, ?_, ?_⟩
            · show _ < _
              have h1 := hacc.out
              rw [Nat.pow_succ]
              have h2 : s[k].toNat % 128 * 128 ^ k ≤ 127 * 128 ^ k := Nat.mul_le_mul_right _ (by omega)
              omega
            · have := hget2.out
              rw [if_pos hc] at this
              exact this
          case measure => simp [intOf]; omega
        · by_cases hc0 : s[k].toNat = 0 ∧ 0 < k
          · obtain ⟨hc0, hk0⟩ := hc0
            have h0 : ((s[k].toNat : Int) == 0) = true := by simp; omega
            have hr : getN s.data.toList = (0, [], 2) := by
              have := hget2.out
              rw [if_neg hc, if_pos ⟨hc0, hk0⟩] at this
              rw [getN, ← this]
            have HR := Lib.hid hr
            have hc1 : s[k].toNat ≤ 1 := by omega
            clear hr hget2 hc0
            rcases hz9 with hz9 | ⟨hz9, _⟩
            all_goals
              go_wp2
              go_ret3
              exact ⟨by rw [HR.out]; rfl, Below.refl _ _⟩
          · have hr : getN s.data.toList = (acc + s[k].toNat % 128 * 128 ^ k, s.data.toList.drop (k + 1), 0) := by
              have := hget2.out
              rw [if_neg hc, if_neg hc0] at this
              rw [getN, ← this, show s[k].toNat % 128 = s[k].toNat from by omega]
            have HR := Lib.hid hr
            have hz0 : ((s[k].toNat : Int) == 0) = false ∨ (((s[k].toNat : Int) == 0) = true ∧ k ≤ 0) := by
              by_cases h : s[k].toNat = 0
              · exact .inr ⟨by simp; omega, by omega⟩
              · exact .inl (by simp; omega)
            have hkl : (k : Int) + 1 ≤ (s.size : Int) := by omega
            have hk64 := HW.out
            clear hr hget2 hc0
            rcases hz0 with hz0 | ⟨hz0, hk0⟩ <;> rcases hz9 with hz9 | ⟨hz9, _⟩
            · go_wp2
              go_region
              go_wp2
              go_ret3
              exact ⟨ret3 (by rw [HA2.out, HR.out]) (by rw [Lib.extract_data, HR.out]; exact List.take_of_length_le (by simp)) (by rw [HR.out]; rfl), (Below.refl _ _).drew⟩
            · go_wp2
              go_region
              go_wp2
              go_ret3
              exact ⟨ret3 (by rw [HA2.out, HR.out]) (by rw [Lib.extract_data, HR.out]; exact List.take_of_length_le (by simp)) (by rw [HR.out]; rfl), (Below.refl _ _).drew⟩
            · go_wp2
              go_region
              go_wp2
              go_ret3
              exact ⟨ret3 (by rw [HA2.out, HR.out]) (by rw [Lib.extract_data, HR.out]; exact List.take_of_length_le (by simp)) (by rw [HR.out]; rfl), (Below.refl _ _).drew⟩
            · simp at hz9; omega
    · obtain hk' : k = 10 ∨ s.size ≤ k := by omega
      have hr : getN s.data.toList = (0, [], 2) := by
        have := hget.out
        have e : Vi.getF (10 - k) k acc (s.data.toList.drop k) = none := by
          rcases hk' with rfl | h
          · rfl
          · rw [List.drop_of_length_le (by simpa using h)]
            cases 10 - k <;> rfl
        rw [e] at this
        rw [getN, ← this]
      have HR := Lib.hid hr
      clear hr hk'
      go_wp2
      go_ret3
      exact ⟨by rw [HR.out]; rfl, Below.refl _ _⟩
end Go.Proofs.Ytominjooffecnaa.WVi
