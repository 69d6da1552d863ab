/- What layer 1's Take computes. -/
import Derived.Test.YtominjooffecnaaWViG
namespace Go.Proofs.Ytominjooffecnaa.WVi
open Go.RowKit Kn

/-- what Take gives: the text, what stands behind it, the error -/
def takeN (s : List UInt8) : List UInt8 × List UInt8 × Nat := match Vi.take s with
  | none => ([], [], 2)
  | some (t, r) => (t, r, 0)

theorem ret3s {b c b' c' : ByteArray} {k : IntKind} {x y : Int} (h : b.data.toList = c.data.toList) (h' : b'.data.toList = c'.data.toList) (hx : x = y) :
    Ending.returned (.tuple #[.string b, .string b', .int k x]) = .returned (.tuple #[.string c, .string c', .int k y]) := by
  have e : b = c := by rw [← Lib.mk_data b, ← Lib.mk_data c, h]
  have e' : b' = c' := by rw [← Lib.mk_data b', ← Lib.mk_data c', h']
  rw [e, e', hx]

theorem get_rest_le {s : List UInt8} {n : Nat} {r : List UInt8} (h : Vi.get s = some (n, r)) : r.length + 1 ≤ s.length := by
  have := Vi.get_eq h
  have h2 := Vi.put_pos n
  rw [this]; simp; omega

set_option maxRecDepth 100000 in
set_option maxHeartbeats 1000000 in
theorem take_any (s : ByteArray) (hs : s.size ≤ 9223372036854775807) (w : World) :
    Calls Try.prog 38 #[.string s] w fun e w' => e = .returned (.tuple #[.string ⟨(takeN s.data.toList).1.toArray⟩, .string ⟨(takeN s.data.toList).2.1.toArray⟩, .int .i64 (takeN s.data.toList).2.2]) ∧ Below w.heap.size w w' := by
  go_enter Try.func38, Try.ntmps38
  go_wp2_with fail
  refine (get_any _ hs _).mono ?_
  rintro e w1 ⟨rfl, hb1⟩
  cases hg : Vi.get s.data.toList with
  | none =>
    have e1 : getN s.data.toList = (0, [], 2) := by rw [getN, hg]
    have e2 : takeN s.data.toList = ([], [], 2) := by rw [takeN, Vi.take, hg]
    have HE := Lib.hid e2
    rw [e1]
    clear hg e1 e2
    go_wp2
    go_ret3
    exact ⟨by rw [HE.out]; rfl, hb1⟩
  | some p =>
    obtain ⟨n, r⟩ := p
    have e1 : getN s.data.toList = (n, r, 0) := by rw [getN, hg]
    have hn := Vi.get_lt hg
    have hrl := get_rest_le hg
    simp only [Array.length_toList, ByteArray.size_data] at hrl
    obtain ⟨R, HR⟩ : ∃ R : ByteArray, Hid (R = ⟨r.toArray⟩) := ⟨_, rfl⟩
    have hRs : R.size = r.length := by rw [HR.out, size_mk]
    have HRd : Hid (R.data.toList = r) := by show _ = _; rw [HR.out]
    by_cases hlt : R.size < n
    · have e2 : takeN s.data.toList = ([], [], 2) := by rw [takeN, Vi.take, hg]; simp only; rw [if_pos (by omega)]
      have HE := Lib.hid e2
      rw [e1]
      simp only
      rw [← HR.out]
      have hR63 : R.size ≤ 9223372036854775807 := by omega
      clear hg e1 e2 hRs hrl
      go_wp2
      go_ret3
      exact ⟨by rw [HE.out]; rfl, hb1⟩
    · have e2 : takeN s.data.toList = (r.take n, r.drop n, 0) := by rw [takeN, Vi.take, hg]; simp only; rw [if_neg (by omega)]
      have HE := Lib.hid e2
      rw [e1]
      simp only
      rw [← HR.out]
      have hR63 : R.size ≤ 9223372036854775807 := by omega
      have hle : (n : Int) ≤ R.size := by omega
      clear hg e1 e2 hRs hrl
      go_wp2
      go_region
      go_wp2
      go_ret3
      exact ⟨ret3s (by rw [Lib.extract_data, HE.out, HRd.out]; simp) (by rw [Lib.extract_data, HE.out, HRd.out]; exact List.take_of_length_le (by rw [List.length_drop, ← HRd.out]; simp)) (by rw [HE.out]; rfl), hb1.drew⟩
end Go.Proofs.Ytominjooffecnaa.WVi
