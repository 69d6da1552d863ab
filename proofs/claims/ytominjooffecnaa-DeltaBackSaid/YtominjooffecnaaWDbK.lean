/- What key, alike and plain of layer 6 compute. -/
import Derived.Test.YtominjooffecnaaPDb
import Derived.Test.YtominjooffecnaaWDlL
namespace Go.Proofs.Ytominjooffecnaa.WDl
open Go.RowKit Kn WVi

theorem drop_get (s : ByteArray) (h : 4 ≤ s.size) : s.data.toList = s[0] :: s[1] :: s[2] :: s[3] :: s.data.toList.drop 4 := by
  have e0 := drop_at s 0 (by omega)
  have e1 := drop_at s 1 (by omega)
  have e2 := drop_at s 2 (by omega)
  have e3 := drop_at s 3 (by omega)
  simp only [List.drop_zero, Nat.zero_add] at e0 e1 e2 e3
  rw [e1, e2, e3] at e0
  exact e0

theorem or_join (x y k p : Nat) (q : Int) (hp : p = 2 ^ k) (hq : q = (p : Int)) (hx : x < p) (h : x + y * p < 4294967296) : bits BinOp.or IntKind.u32 (x : Int) ((y : Int) * q) = ((x + y * p : Nat) : Int) := by
  subst hq
  subst hp
  rw [← Int.natCast_mul, u32_or_nat _ _ (by omega) (by omega), Nat.or_comm, nat_join k _ _ (Nat.mul_mod_left _ _) hx, Nat.add_comm]

set_option maxRecDepth 100000 in
set_option maxHeartbeats 2000000 in
theorem key_any (s : ByteArray) (h4 : 4 ≤ s.size) (w : World) :
    Calls Try.prog 81 #[.string s] w fun e w' => e = .returned (.int .u32 (Dl.keyN s.data.toList)) ∧ Below w.heap.size w w' := by
  have HK : Hid (Dl.keyN s.data.toList = s[0].toNat + 256 * s[1].toNat + 65536 * s[2].toNat + 16777216 * s[3].toNat) := by
    show _ = _
    rw [drop_get s h4]; rfl
  have b0 := s[0].toNat_lt
  have b1 := s[1].toNat_lt
  have b2 := s[2].toNat_lt
  have b3 := s[3].toNat_lt
  have g0 : 0 < s.size := by omega
  have g1 : (1 : Int) < (s.size : Int) := by omega
  have g2 : (2 : Int) < (s.size : Int) := by omega
  have g3 : (3 : Int) < (s.size : Int) := by omega
  go_enter Try.func81, Try.ntmps81
  go_wp2
  go_region
  all_goals
    go_wp2
    go_ret
    refine ⟨ret_int ?_, (Below.refl _ _).drew⟩
    rw [HK.out, or_join _ _ 8 256 256 rfl rfl (by omega) (by omega), or_join _ _ 16 65536 65536 rfl rfl (by omega) (by omega), or_join _ _ 24 16777216 16777216 rfl rfl (by omega) (by omega)]
    omega

theorem com_step (a b : List UInt8) (k : Nat) (ha : k < a.length) (hb : k < b.length) (h : a.take k = b.take k) (e : a[k] = b[k]) : a.take (k + 1) = b.take (k + 1) := by
  rw [List.take_succ_eq_append_getElem ha, List.take_succ_eq_append_getElem hb, h, e]

set_option maxRecDepth 100000 in
set_option maxHeartbeats 2000000 in
theorem alike_any (a b : ByteArray) (ha : a.size ≤ 100000) (_hb : b.size ≤ 100000) (w : World) :
    Calls Try.prog 82 #[.string a, .string b] w fun e w' => ∃ n : Nat, e = .returned (.int .i64 n) ∧ n ≤ a.size ∧ n ≤ b.size ∧ Hid (a.data.toList.take n = b.data.toList.take n ∧ ((ha : n < a.size) → (hb : n < b.size) → a[n] ≠ b[n])) ∧ Below w.heap.size w w' := by
  go_enter Try.func82, Try.ntmps82
  go_wp2
  go_loopw [5] (fun iv wr => ∃ k : Nat, iv = .int .i64 k ∧ k ≤ a.size ∧ k ≤ b.size ∧ Below w.heap.size w wr ∧ Hid (a.data.toList.take k = b.data.toList.take k)) (fun iv _ => a.size - (intOf iv).toNat)
  case atStart => exact ⟨0, rfl, Nat.zero_le _, Nat.zero_le _, Below.refl _ _, rfl⟩
  case round =>
    obtain ⟨k, rfl, hka, hkb, hbel, HE⟩ := hrel
    have hk0 : (0 : Int) ≤ (k : Int) := by omega
    by_cases h1 : k < a.size
    · have h1' : (k : Int) < (a.size : Int) := by omega
      by_cases h2 : k < b.size
      · have h2' : (k : Int) < (b.size : Int) := by omega
        by_cases h3 : a[k] = b[k]
        · have HN : Hid (a.data.toList.take (k + 1) = b.data.toList.take (k + 1)) := com_step _ _ k (by simpa using h1) (by simpa using h2) HE.out h3
          clear HE
          have h3' : ((a[k].toNat : Int) == (b[k].toNat : Int)) = true := by rw [h3]; simp
          go_wp2
          go_region
          all_goals
            go_wp2
            go_roundw
            case rel => exact ⟨k + 1, by go_num, by omega, by omega, hbel.drew, HN⟩
            case measure => simp [intOf]; omega
        · have h3' : ((a[k].toNat : Int) == (b[k].toNat : Int)) = false := by
            simp
            intro h
            exact h3 (UInt8.toNat_inj.1 (by omega))
          have HX : Hid (a.data.toList.take k = b.data.toList.take k ∧ ((ha : k < a.size) → (hb : k < b.size) → a[k] ≠ b[k])) := ⟨HE.out, fun _ _ => h3⟩
          clear HE
          go_wp2
          go_region
          all_goals
            go_wp2
            go_ret
            exact ⟨k, rfl, hka, hkb, HX, hbel.drew⟩
      · have HX : Hid (a.data.toList.take k = b.data.toList.take k ∧ ((ha : k < a.size) → (hb : k < b.size) → a[k] ≠ b[k])) := ⟨HE.out, fun _ h => absurd h h2⟩
        clear HE
        go_wp2
        go_region
        all_goals
          go_wp2
          go_ret
          exact ⟨k, rfl, hka, hkb, HX, hbel.drew⟩
    · have HX : Hid (a.data.toList.take k = b.data.toList.take k ∧ ((ha : k < a.size) → (hb : k < b.size) → a[k] ≠ b[k])) := ⟨HE.out, fun h _ => absurd h h1⟩
      clear HE
      go_wp2
      go_region
      all_goals
        go_wp2
        go_ret
        exact ⟨k, rfl, hka, hkb, HX, hbel.drew⟩

theorem eq_empty {R : ByteArray} (h : R.data.toList = []) : R = ⟨#[]⟩ := by rw [← Lib.mk_data R, h]

set_option maxRecDepth 100000 in
set_option maxHeartbeats 2000000 in
theorem plain_any (s : ByteArray) (hs : s.size ≤ 100000) (w : World) :
    Calls Try.prog 78 #[.string s] w fun e w' => e = .returned (.string ⟨(Dl.plainN s.data.toList).toArray⟩) ∧ Below w.heap.size w w' := by
  by_cases h : s.data.toList = []
  · obtain rfl := eq_empty h
    have HE := Lib.hid (show Dl.plainN [] = [] from rfl)
    clear h
    go_enter Try.func78, Try.ntmps78
    go_wp2
    all_goals
      go_ret
      exact ⟨rfl, Below.refl _ _⟩
  · have HP := Lib.hid (show Dl.plainN s.data.toList = Vi.put (2 * s.data.toList.length) ++ s.data.toList by rw [Dl.plainN, if_neg h])
    have hl : s.data.toList.length = s.size := by simp
    have hne : s.toList.isEmpty = false := by
      have : s.toList = s.data.toList := Lib.toList_data s
      rw [this]
      cases hx : s.data.toList with
      | nil => exact absurd hx h
      | cons a l => rfl
    clear h
    rw [hl] at HP
    have hw : IntKind.u64.wrap (IntKind.i64.wrap (2 * (s.size : Int))) = ((2 * s.size : Nat) : Int) := by
      rw [IntKind.wrap_i64, IntKind.wrap_u64]
      omega
    have hpl := Vi.put_le (2 * s.size)
    have hlim : (9223372036854775807 < (Vi.put (2 * s.size)).length + s.size) = False := by simp; omega
    go_enter Try.func78, Try.ntmps78
    go_wp2_with fail
    refine (put_any (2 * s.size) (by omega) _).mono ?_
    rintro e w1 ⟨rfl, hb1⟩
    go_wp2
    go_ret
    refine ⟨ret_bytes ?_, hb1⟩
    rw [HP.out, cat_data]
end Go.Proofs.Ytominjooffecnaa.WDl
