/- The walk of the law CrcByte: what was sealed is opened; with one byte of it another one it is refused; what was there stays. -/
import Derived.Test.YtominjooffecnaaWCrcS
import Derived.RegionTactic
import Derived.OpenShut
namespace Go.Proofs.Ytominjooffecnaa.CrcByteW
open Go.RowKit Kn

theorem turned_open (s t : ByteArray) (k b : Nat) (hl : t.size = s.size + 4) (ht : t.data.toList = Crc.seal_ s.data.toList) (hk : k < t.size) (hb : b < 256) :
    (b = 0 → Crc.openN (t.extract 0 k ++ (⟨#[u8 ((t[k].toNat ^^^ b : Nat) : Int)]⟩ : ByteArray) ++ t.extract (k + 1) (s.size + 4)).data.toList = (s.data.toList, 0)) ∧
    (b ≠ 0 → Crc.openN (t.extract 0 k ++ (⟨#[u8 ((t[k].toNat ^^^ b : Nat) : Int)]⟩ : ByteArray) ++ t.extract (k + 1) (s.size + 4)).data.toList = ([], 5)) := by
  have hsl := Crc.seal_length s.data.toList
  have hk' : k < (Crc.seal_ s.data.toList).length := by rw [hsl]; simp; omega
  have hg : t[k] = (Crc.seal_ s.data.toList)[k] := by
    have : (t.data.toList)[k]? = (Crc.seal_ s.data.toList)[k]? := by rw [ht]
    rw [List.getElem?_eq_getElem hk', List.getElem?_eq_getElem (by simpa using hk)] at this
    exact Option.some.inj this
  have e : (t.extract 0 k ++ (⟨#[u8 ((t[k].toNat ^^^ b : Nat) : Int)]⟩ : ByteArray) ++ t.extract (k + 1) (s.size + 4)).data.toList =
      (Crc.seal_ s.data.toList).take k ++ u8 ((t[k].toNat ^^^ b : Nat) : Int) :: (Crc.seal_ s.data.toList).drop (k + 1) := by
    rw [cat_data, cat_data, Lib.extract_data, Lib.extract_data, ht]
    simp only [List.drop_zero, Nat.sub_zero, List.append_assoc]
    rw [List.take_of_length_le (l := List.drop (k + 1) _) (by rw [List.length_drop, hsl]; simp)]
    rfl
  rw [e]
  have hu := t[k].toNat_lt
  constructor
  · rintro rfl
    have : u8 ((t[k].toNat ^^^ 0 : Nat) : Int) = (Crc.seal_ s.data.toList)[k] := by
      rw [← hg, Nat.xor_zero]
      unfold u8
      simp
    rw [this, List.getElem_cons_drop, List.take_append_drop]
    exact Crc.open_seal _
  · intro h
    refine Crc.open_turned _ _ hk' _ (fun x => h ?_)
    rw [← hg] at x
    have h2 := congrArg UInt8.toNat x
    have hx : t[k].toNat ^^^ b < 256 := Nat.xor_lt_two_pow (n := 8) hu hb
    unfold u8 at h2
    rw [UInt8.toNat_ofNat', Int.toNat_natCast, Nat.mod_eq_of_lt (by omega)] at h2
    have h3 : t[k].toNat ^^^ b = t[k].toNat ^^^ 0 := by rw [Nat.xor_zero]; exact h2
    exact Crc.xor_cancel_left h3

set_option maxHeartbeats 400000 in
theorem walk (s : ByteArray) (hs : s.size ≤ 140737488351232) (n b : Nat) (hn : n < 4294967296) (hb : b < 256) (w : World) :
    Calls Try.prog 7 #[.string s, .int .u32 n, .int .u8 b] w fun e w' => e = .returned (.bool true) ∧ Below w.heap.size w w' := by
  obtain ⟨t, HT⟩ : ∃ t : ByteArray, Hid (t = ⟨(Crc.seal_ s.data.toList).toArray⟩) := ⟨_, rfl⟩
  have hl : t.size = s.size + 4 := by
    have := Crc.seal_length s.data.toList
    rw [HT.out, size_mk, this]; simp
  have HTL : Hid (t.data.toList = Crc.seal_ s.data.toList) := by show _ = _; rw [HT.out]
  obtain ⟨k, HK⟩ : ∃ k : Nat, Hid ((n : Int) % ((s.size : Int) + 4) = k) := ⟨n % (s.size + 4), by show _ = _; rw [Int.natCast_emod]; rfl⟩
  have hk : k < t.size := by
    have h1 := HK.out
    have h2 := Int.emod_lt_of_pos (n : Int) (show (0 : Int) < (s.size : Int) + 4 by omega)
    omega
  have hk1 : (k : Int) < (s.size : Int) + 4 := by omega
  have hk2 : (k : Int) ≤ (s.size : Int) + 4 := by omega
  have hk3 : (k : Int) < (t.size : Int) := by omega
  have hk4 : (k : Int) + 1 ≤ (s.size : Int) + 4 := by omega
  have hu := t[k].toNat_lt
  have hx := u8_xor_nat t[k].toNat b hu hb
  have hxl : t[k].toNat ^^^ b < 256 := Nat.xor_lt_two_pow (n := 8) hu hb
  have hc := fun W : World => conv1_drew (((t[k].toNat ^^^ b : Nat) : Int)) (by omega) (by omega) W
  have hwr : IntKind.i64.wrap ((k : Int) + 1) = (k : Int) + 1 := by rw [IntKind.wrap_i64]; omega
  go_enter Try.func7, Try.ntmps7
  go_wp2_with fail
  refine (WCrc.seal_any _ _ (by omega)).mono ?_
  rintro e w1 ⟨rfl, hb1⟩
  rw [← HT.out]
  go_wp2_with fail
  refine (WCrc.open_any _ _ (by omega)).mono ?_
  rintro e w2 ⟨rfl, hb2⟩
  rw [HTL.out, Crc.open_seal]
  go_wp2_with fail
  rw [HK.out]
  go_region
  clear hc hx hwr
  go_wp2_with fail
  refine (WCrc.open_any _ _ (by rw [ByteArray.size_append, ByteArray.size_append, ByteArray.size_extract, ByteArray.size_extract, show (⟨#[u8 ((t[k].toNat ^^^ b : Nat) : Int)]⟩ : ByteArray).size = 1 from rfl]; omega)).mono ?_
  rintro e w3 ⟨rfl, hb3⟩
  have HZ := Lib.hid (turned_open s t k b hl HTL.out hk hb)
  have hb4 : Below w.heap.size w w3 := bnext (balloc (bnext hb1 hb2) _).drew hb3
  by_cases h0 : b = 0
  · subst h0
    rw [HZ.out.1 rfl]
    clear hxl hu
    go_wp2_with fail
    refine (WCrcR.knows_any _).mono ?_
    rintro e w4 ⟨rfl, hb5⟩
    go_wp2
    go_ret
    exact ⟨rfl, bnext hb4 hb5⟩
  · rw [HZ.out.2 h0]
    clear hxl hu
    have h1 : ((b : Int) == 0) = false := by simp; omega
    have h2 : ((b : Int) != 0) = true := by simp; omega
    go_wp2_with fail
    refine (WCrcR.knows_any _).mono ?_
    rintro e w4 ⟨rfl, hb5⟩
    go_wp2
    go_ret
    exact ⟨rfl, bnext hb4 hb5⟩

theorem walk_int (s : ByteArray) (hs : s.size ≤ 140737488351232) (n : Int) (hn : (Lit.int .u32 n).wf = true) (b : Int) (hb : (Lit.int .u8 b).wf = true) (w : World) :
    Calls Try.prog 7 #[.string s, .int .u32 n, .int .u8 b] w fun e w' => e = .returned (.bool true) ∧ Below w.heap.size w w' := by
  have h1 := bounds_u32 hn
  have h2 := bounds_u8 hb
  obtain ⟨n, rfl⟩ := Int.eq_ofNat_of_zero_le h1.1
  obtain ⟨b, rfl⟩ := Int.eq_ofNat_of_zero_le h2.1
  exact walk s hs n b (by omega) (by omega) w

end Go.Proofs.Ytominjooffecnaa.CrcByteW
