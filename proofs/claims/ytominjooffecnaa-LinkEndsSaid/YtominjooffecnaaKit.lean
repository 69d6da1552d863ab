/- Small words that all walks of this seat share: values told by numbers, bytes turned into strings, what is below stays. -/
import Derived.Test.YtominjooffecnaaProg
import Derived.WalkKit
import Derived.WalkLawsBesides
import Derived.WalkSpells
import Derived.Lib.Hide
import Derived.Lib.Strings
import Derived.Laws.BitsAllLaws
import Derived.Laws.IdiomStrings
namespace Go.Proofs.Ytominjooffecnaa
open Go.RowKit

theorem ret_int {k : IntKind} {a b : Int} (h : a = b) : Ending.returned (.int k a) = .returned (.int k b) := by rw [h]
theorem ret_str {a b : List UInt8} (h : a = b) : Ending.returned (.string ⟨a.toArray⟩) = .returned (.string ⟨b.toArray⟩) := by rw [h]
theorem val_int {k : IntKind} {a b : Int} (h : a = b) : Value.int k a = .int k b := by rw [h]
theorem val_str {a b : List UInt8} (h : a = b) : Value.string ⟨a.toArray⟩ = .string ⟨b.toArray⟩ := by rw [h]

theorem take_snoc (s : ByteArray) (k : Nat) (h : k < s.size) : s.data.toList.take (k + 1) = s.data.toList.take k ++ [s[k]] := by
  rw [List.take_succ_eq_append_getElem (by simpa using h)]; rfl

/-- a byte, of an integer -/
def toU8 (n : Int) : UInt8 := UInt8.ofNat n.toNat

theorem toU8_toNat {n : Int} (h0 : 0 ≤ n) (h1 : n < 256) : ((toU8 n).toNat : Int) = n := by
  unfold toU8
  rw [UInt8.toNat_ofNat']
  omega

/-- 'string([]byte{a})' -/
theorem conv1 (n : Int) (h0 : 0 ≤ n) (h1 : n < 256) (W : World) :
    (convert 52 9 (.slice (some ⟨W.heap.size, 0, none⟩) 1 1)).run Try.prog (W.alloc (.cells #[.int .u8 n] 5)) = .ok (.string ⟨#[toU8 n]⟩) (W.alloc (.cells #[.int .u8 n] 5)) := by
  have h := run_convert_bytes_back (P := Try.prog) (W.alloc (.cells #[.int .u8 n] 5)) 52 9 5 ⟨W.heap.size, 0, none⟩ 1 [toU8 n] Try.underlying52 Try.underlying5 Try.underlying9 (fun j hj => by
    match j, hj with
    | 0, _ =>
      simp only [List.getElem_cons_zero, toU8_toNat h0 h1]
      simp [Addr.add])
  exact h

/-- the same behind a draw -/
theorem conv1_drew (n : Int) (h0 : 0 ≤ n) (h1 : n < 256) (W : World) :
    (convert 52 9 (.slice (some ⟨W.heap.size, 0, none⟩) 1 1)).run Try.prog (W.alloc (.cells #[.int .u8 n] 5)).drew = .ok (.string ⟨#[toU8 n]⟩) (W.alloc (.cells #[.int .u8 n] 5)).drew :=
  conv1 n h0 h1 W.drew

/-- 'string([]byte{a, b, c, d})' -/
theorem conv4 (a b c d : Int) (a0 : 0 ≤ a) (a1 : a < 256) (b0 : 0 ≤ b) (b1 : b < 256) (c0 : 0 ≤ c) (c1 : c < 256) (d0 : 0 ≤ d) (d1 : d < 256) (W : World) :
    (convert 52 9 (.slice (some ⟨W.heap.size, 0, none⟩) 4 4)).run Try.prog (W.alloc (.cells #[.int .u8 a, .int .u8 b, .int .u8 c, .int .u8 d] 5)) =
      .ok (.string ⟨#[toU8 a, toU8 b, toU8 c, toU8 d]⟩) (W.alloc (.cells #[.int .u8 a, .int .u8 b, .int .u8 c, .int .u8 d] 5)) := by
  have h := run_convert_bytes_back (P := Try.prog) (W.alloc (.cells #[.int .u8 a, .int .u8 b, .int .u8 c, .int .u8 d] 5)) 52 9 5 ⟨W.heap.size, 0, none⟩ 4 [toU8 a, toU8 b, toU8 c, toU8 d]
    Try.underlying52 Try.underlying5 Try.underlying9 (fun j hj => by
    match j, hj with
    | 0, _ => simp only [List.getElem_cons_zero, toU8_toNat a0 a1]; simp [Addr.add]
    | 1, _ => simp only [List.getElem_cons_succ, List.getElem_cons_zero, toU8_toNat b0 b1]; simp [Addr.add]
    | 2, _ => simp only [List.getElem_cons_succ, List.getElem_cons_zero, toU8_toNat c0 c1]; simp [Addr.add]
    | 3, _ => simp only [List.getElem_cons_succ, List.getElem_cons_zero, toU8_toNat d0 d1]; simp [Addr.add])
  exact h

/-- a string and bytes behind it -/
theorem cat_mk (s : ByteArray) (l : List UInt8) : s ++ (⟨l.toArray⟩ : ByteArray) = ⟨(s.data.toList ++ l).toArray⟩ := by
  have := ByteArray.mk_append_mk s.data.toList l
  rw [Lib.mk_data] at this
  exact this

theorem cat_eq (s t : ByteArray) : s ++ t = ⟨(s.data.toList ++ t.data.toList).toArray⟩ := by
  have := cat_mk s t.data.toList
  rw [Lib.mk_data] at this
  exact this

theorem ret_bytes {a b : ByteArray} (h : a.data.toList = b.data.toList) : Ending.returned (.string a) = .returned (.string b) := by
  have : a = b := by rw [← Lib.mk_data a, ← Lib.mk_data b, h]
  rw [this]
theorem val_bytes {a b : ByteArray} (h : a.data.toList = b.data.toList) : Value.string a = .string b := by
  have : a = b := by rw [← Lib.mk_data a, ← Lib.mk_data b, h]
  rw [this]
theorem cat_data (s t : ByteArray) : (s ++ t).data.toList = s.data.toList ++ t.data.toList := by rw [cat_eq]

theorem ret2 {a b : ByteArray} {k : IntKind} {x y : Int} (h : a.data.toList = b.data.toList) (hx : x = y) : Ending.returned (.tuple #[.string a, .int k x]) = .returned (.tuple #[.string b, .int k y]) := by
  have : a = b := by rw [← Lib.mk_data a, ← Lib.mk_data b, h]
  rw [this, hx]

theorem size_mk (l : List UInt8) : (⟨l.toArray⟩ : ByteArray).size = l.length := by simp [ByteArray.size]

/-- bytes as values -/
def bytesV (l : List UInt8) : List Value := l.map fun b => .int .u8 (b.toNat : Int)
theorem bytesV_append (a b : List UInt8) : bytesV (a ++ b) = bytesV a ++ bytesV b := by simp [bytesV]
theorem bytesV_length (l : List UInt8) : (bytesV l).length = l.length := by simp [bytesV]

/-- 'string(b)', b a row of bytes of the call's own -/
theorem conv_own {w : World} {base g n cap : Nat} {l : List UInt8} (h : w.ownsRow base 5 1 (.slice (some ⟨g, 0, none⟩) n cap) n (bytesV l)) :
    (convert 52 9 (.slice (some ⟨g, 0, none⟩) n cap)).run Try.prog w = .ok (.string ⟨l.toArray⟩) w := by
  have hn : l.length = n := by have := h.1; rw [bytesV_length] at this; omega
  subst hn
  refine run_convert_bytes_back (P := Try.prog) w 52 9 5 ⟨g, 0, none⟩ cap l Try.underlying52 Try.underlying5 Try.underlying9 (fun j hj => ?_)
  have e1 : (⟨g, 0, none⟩ : Addr).add j = ⟨g, j, none⟩ := by unfold Addr.add; split <;> simp_all
  rw [e1, h.cellAt j (by omega)]
  simp [bytesV, hj]

theorem conv_nil (w : World) (c : Nat) : (convert 52 9 (.slice none 0 c)).run Try.prog w = .ok (.string ⟨#[]⟩) w := by
  rw [run_convert_bytes_string w 52 9 5 none 0 c Try.underlying52 Try.underlying5 Try.underlying9]
  simp [Conv.bytesToString]
  rfl

theorem conv_any {w : World} {base n c : Nat} {A : Option Addr} {l : List UInt8} (h : w.ownsRow base 5 1 (.slice A n c) n (bytesV l)) :
    (convert 52 9 (.slice A n c)).run Try.prog w = .ok (.string ⟨l.toArray⟩) w := by
  rcases h.2 with ⟨hv, hn⟩ | ⟨g, cap, cur, hv, _⟩
  · simp only [Value.slice.injEq] at hv
    obtain ⟨hA, hn', hc⟩ := hv
    have hl : l = [] := List.eq_nil_of_length_eq_zero (by have := h.1; rw [bytesV_length] at this; omega)
    rw [hA, hn', hc, hl]
    exact conv_nil w 0
  · simp only [Value.slice.injEq] at hv
    obtain ⟨hA, _, hc⟩ := hv
    rw [hA] at h ⊢
    exact conv_own h

theorem info5 : (Try.prog.info? 5).map (fun i => (i.zero, i.size, i.bytes)) = some (some (.int .u8 0), 1, 1) := by kernel_rfl

end Go.Proofs.Ytominjooffecnaa
