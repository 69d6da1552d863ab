/- Four figures, the program's and the reference's. -/
import Derived.Test.YtominjooffecnaaKit
import Derived.Test.YtominjooffecnaaPPkt
import Derived.Test.YtominjooffecnaaApp
import Derived.Lib.Bytealg
import Derived.Laws.Externs
import Derived.RegionTactic
namespace Go.Proofs.Ytominjooffecnaa.WPk
open Go.RowKit Kn

theorem ext84 (s : ByteArray) (c : Int) (w : World) : (callFunc 84 #[.string s, .int .u8 c]).run Try.prog w = .ok (.value (.int .i64 (Lib.indexByte s.data.toList c.toNat.toUInt8))) w := by
  rw [run_callFunc_extern Try.func84 (by kernel_rfl) (by kernel_rfl) (by kernel_rfl) (e := Extern.BytealgIndexByte.indexByte) (by kernel_rfl), Lib.run_indexByteString]
  rfl

def hexL : List UInt8 := [48, 49, 50, 51, 52, 53, 54, 55, 56, 57, 97, 98, 99, 100, 101, 102]

theorem hex_idx (c : UInt8) : Lib.indexByte hexL c = match Pkt.unfig c with | none => -1 | some n => (n : Int) := by
  have h : ∀ n : Nat, n < 256 → Lib.indexByte hexL (UInt8.ofNat n) = match Pkt.unfig (UInt8.ofNat n) with | none => -1 | some n => (n : Int) := by decide +kernel
  have := h c.toNat c.toNat_lt
  rwa [show UInt8.ofNat c.toNat = c from by simp] at this

theorem idx_any (s : ByteArray) (c : UInt8) (w : World) :
    Calls Try.prog 79 #[.string s, .int .u8 c.toNat] w fun e w' => e = .returned (.int .i64 (Lib.indexByte s.data.toList c)) ∧ w = w' := by
  have he := ext84 s (c.toNat : Int) w
  rw [show ((c.toNat : Int).toNat.toUInt8) = c from by simp] at he
  go_enter Try.func79, Try.ntmps79
  go_wp2
  go_ret
  exact ⟨rfl, rfl⟩

theorem ofInt_i64 (a : Nat) (ha : a < 9223372036854775808) : (BitVec.ofInt 64 (a : Int)).toNat = a := by
  rw [BitVec.ofInt_natCast, BitVec.toNat_ofNat]; exact Nat.mod_eq_of_lt (by omega)
theorem i64_and_nat (a b : Nat) (ha : a < 9223372036854775808) (hb : b < 9223372036854775808) : bits .and .i64 (a : Int) (b : Int) = ((a &&& b : Nat) : Int) := by
  have hx : a &&& b < 2 ^ 63 := Nat.and_lt_two_pow _ (by omega)
  show IntKind.i64.wrap ((BitVec.ofInt 64 (a : Int) &&& BitVec.ofInt 64 (b : Int)).toNat : Int) = _
  rw [BitVec.toNat_and, ofInt_i64 a ha, ofInt_i64 b hb, IntKind.wrap_i64]
  omega
theorem i64_or_nat (a b : Nat) (ha : a < 9223372036854775808) (hb : b < 9223372036854775808) : bits .or .i64 (a : Int) (b : Int) = ((a ||| b : Nat) : Int) := by
  have hx : a ||| b < 2 ^ 63 := Nat.or_lt_two_pow (by omega) (by omega)
  show IntKind.i64.wrap ((BitVec.ofInt 64 (a : Int) ||| BitVec.ofInt 64 (b : Int)).toNat : Int) = _
  rw [BitVec.toNat_or, ofInt_i64 a ha, ofInt_i64 b hb, IntKind.wrap_i64]
  omega

theorem and15 (m : Nat) (h : m < 65536) : bits .and .i64 (m : Int) 15 = ((m % 16 : Nat) : Int) := by
  have := i64_and_nat m 15 (by omega) (by omega)
  rw [nat_mask4] at this
  exact this

/-- a figure's byte, of an integer -/
def figI (x : Int) : Int := ((Pkt.fig x.toNat).toNat : Int)
theorem figI_b (x : Int) : 0 ≤ figI x ∧ figI x < 256 := by
  have := (Pkt.fig x.toNat).toNat_lt
  unfold figI
  omega
theorem figI_u8 (x : Int) (k : Nat) (h : x = k) : toU8 (figI x) = Pkt.fig k := by
  subst h
  unfold toU8 figI
  simp

theorem hex_at (x : Int) (h0 : 0 ≤ x) (h1 : x < 16) (W : World) : (Instr.index 9 (.string ⟨#[48, 49, 50, 51, 52, 53, 54, 55, 56, 57, 97, 98, 99, 100, 101, 102]⟩) (.int .i64 x)).run Try.prog W = .ok (.int .u8 (figI x)) W := by
  obtain ⟨k, rfl⟩ := Int.eq_ofNat_of_zero_le h0
  have hk : k < 16 := by omega
  rw [run_index_string W 9 _ .i64 (k : Int) Try.underlying9]
  have hs : (⟨#[48, 49, 50, 51, 52, 53, 54, 55, 56, 57, 97, 98, 99, 100, 101, 102]⟩ : ByteArray).size = 16 := rfl
  have hall : ∀ k : Nat, (h : k < 16) → (⟨#[48, 49, 50, 51, 52, 53, 54, 55, 56, 57, 97, 98, 99, 100, 101, 102]⟩ : ByteArray)[k]'h = Pkt.fig k := by decide +kernel
  rw [dif_pos ⟨h0, by rw [hs]; omega⟩]
  have := hall k hk
  simp only [Int.toNat_natCast, figI]
  rw [this]

theorem conv4_drew (a b c d : Int) (a0 : 0 ≤ a) (a1 : a < 256) (b0 : 0 ≤ b) (b1 : b < 256) (c0 : 0 ≤ c) (c1 : c < 256) (d0 : 0 ≤ d) (d1 : d < 256) (W : World) :
    (convert 52 9 (.slice (some ⟨W.heap.size, 0, none⟩) 4 4)).run Try.prog (W.alloc (.cells #[.int .u8 a, .int .u8 b, .int .u8 c, .int .u8 d] 5)).drew =
      .ok (.string ⟨#[toU8 a, toU8 b, toU8 c, toU8 d]⟩) (W.alloc (.cells #[.int .u8 a, .int .u8 b, .int .u8 c, .int .u8 d] 5)).drew :=
  conv4 a b c d a0 a1 b0 b1 c0 c1 d0 d1 W.drew

set_option maxHeartbeats 1000000 in
theorem figures_any (n : Nat) (hn : n < 65536) (w : World) :
    Calls Try.prog 66 #[.int .i64 n] w fun e w' => e = .returned (.string ⟨(Pkt.figures n).toArray⟩) ∧ Below w.heap.size w w' := by
  have a1 : bits .and .i64 ((n : Int) / 4096) 15 = (n : Int) / 4096 % 16 := (and15 (n / 4096) (by omega)).trans (by omega)
  have a2 : bits .and .i64 ((n : Int) / 256) 15 = (n : Int) / 256 % 16 := (and15 (n / 256) (by omega)).trans (by omega)
  have a3 : bits .and .i64 ((n : Int) / 16) 15 = (n : Int) / 16 % 16 := (and15 (n / 16) (by omega)).trans (by omega)
  have a4 : bits .and .i64 (n : Int) 15 = (n : Int) % 16 := (and15 n (by omega)).trans (by omega)
  have i1 := hex_at ((n : Int) / 4096 % 16) (by omega) (by omega)
  have i2 := hex_at ((n : Int) / 256 % 16) (by omega) (by omega)
  have i3 := hex_at ((n : Int) / 16 % 16) (by omega) (by omega)
  have i4 := hex_at ((n : Int) % 16) (by omega) (by omega)
  have hc := fun W : World => conv4_drew (figI ((n : Int) / 4096 % 16)) (figI ((n : Int) / 256 % 16)) (figI ((n : Int) / 16 % 16)) (figI ((n : Int) % 16))
    (figI_b _).1 (figI_b _).2 (figI_b _).1 (figI_b _).2 (figI_b _).1 (figI_b _).2 (figI_b _).1 (figI_b _).2 W
  have HF := Lib.hid (show [toU8 (figI ((n : Int) / 4096 % 16)), toU8 (figI ((n : Int) / 256 % 16)), toU8 (figI ((n : Int) / 16 % 16)), toU8 (figI ((n : Int) % 16))] = Pkt.figures n by
    unfold Pkt.figures
    rw [figI_u8 _ (n / 4096 % 16) (by omega), figI_u8 _ (n / 256 % 16) (by omega), figI_u8 _ (n / 16 % 16) (by omega), figI_u8 _ (n % 16) (by omega)])
  go_enter Try.func66, Try.ntmps66
  go_wp2
  go_region
  go_wp2
  go_ret
  exact ⟨by rw [← HF.out]; rfl, ((Below.refl _ _).alloc (Nat.le_refl _) _).drew⟩

theorem digit_any (n : Nat) (hn : n < 16) (w : World) :
    Calls Try.prog 80 #[.int .i64 n] w fun e w' => e = .returned (.string ⟨#[Pkt.fig n]⟩) ∧ Below w.heap.size w w' := by
  have h1 := conv1 ((48 : Int) + n) (by omega) (by omega)
  have h2 := conv1 ((87 : Int) + n) (by omega) (by omega)
  go_enter Try.func80, Try.ntmps80
  go_wp2
  · have h : (n : Int) < 10 := by assumption
    go_ret
    exact ⟨by rw [Pkt.fig, if_pos (by omega)]; rfl, (Below.refl _ _).alloc (Nat.le_refl _) _⟩
  · have h : (10 : Int) ≤ n := by assumption
    go_ret
    exact ⟨by rw [Pkt.fig, if_neg (by omega)]; rfl, (Below.refl _ _).alloc (Nat.le_refl _) _⟩

set_option maxHeartbeats 1000000 in
theorem figuresR_any (n : Nat) (hn : n < 65536) (w : World) :
    Calls Try.prog 70 #[.int .i64 n] w fun e w' => e = .returned (.string ⟨(Pkt.figures n).toArray⟩) ∧ Below w.heap.size w w' := by
  have d1 := digit_any (n / 4096) (by omega)
  have d2 := digit_any (n / 256 % 16) (by omega)
  have d3 := digit_any (n / 16 % 16) (by omega)
  have d4 := digit_any (n % 16) (by omega)
  have H1 := Lib.hid d1
  have H2 := Lib.hid d2
  have H3 := Lib.hid d3
  have H4 := Lib.hid d4
  clear d1 d2 d3 d4
  go_enter Try.func70, Try.ntmps70
  go_wp2_with fail
  refine (H1.out _).mono ?_
  rintro e w1 ⟨rfl, hb1⟩
  go_wp2_with fail
  refine (H2.out _).mono ?_
  rintro e w2 ⟨rfl, hb2⟩
  go_wp2_with fail
  refine (H3.out _).mono ?_
  rintro e w3 ⟨rfl, hb3⟩
  go_wp2_with fail
  refine (H4.out _).mono ?_
  rintro e w4 ⟨rfl, hb4⟩
  go_wp2
  go_ret
  exact ⟨ret_bytes (by rw [cat_data, cat_data, cat_data]; unfold Pkt.figures; rw [show n / 4096 % 16 = n / 4096 from by omega]; rfl), bnext (bnext (bnext hb1 hb2) hb3) hb4⟩
end Go.Proofs.Ytominjooffecnaa.WPk
