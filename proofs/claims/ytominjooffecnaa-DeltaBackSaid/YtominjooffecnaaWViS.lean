/- What layer 1's reference computes at Take. -/
import Derived.Test.YtominjooffecnaaWViR
namespace Go.Proofs.Ytominjooffecnaa.WVi
open Go.RowKit Kn

/-- what the reference's Take gives: the text, and how many bytes there are in all -/
def takeR (s : List UInt8) : List UInt8 × Nat := match Vi.take s with
  | none => ([], 0)
  | some (t, r) => (t, s.length - r.length)

set_option maxRecDepth 100000 in
set_option maxHeartbeats 1000000 in
theorem takeR_any (s : ByteArray) (hs : s.size ≤ 9223372036854775807) (w : World) :
    Calls Try.prog 39 #[.string s] w fun e w' => e = .returned (.tuple #[.string ⟨(takeR s.data.toList).1.toArray⟩, .int .i64 (takeR s.data.toList).2]) ∧ w = w' := by
  go_enter Try.func39, Try.ntmps39
  go_wp2_with fail
  refine (getR_any _ hs _).mono ?_
  rintro e w1 ⟨rfl, rfl⟩
  cases hg : Vi.get s.data.toList with
  | none =>
    have e1 : getR s.data.toList = (0, 0) := by rw [getR, hg]
    have e2 : takeR s.data.toList = ([], 0) := by rw [takeR, Vi.take, hg]
    have HE := Lib.hid e2
    rw [e1]
    clear hg e1 e2
    go_wp2
    go_ret2
    exact ⟨by rw [HE.out]; rfl, rfl⟩
  | some p =>
    obtain ⟨n, r⟩ := p
    have hrl := get_rest_le hg
    have hn := Vi.get_lt hg
    have hsl : s.data.toList.length = s.size := by simp
    have e1 : getR s.data.toList = (n, s.size - r.length) := by rw [getR, hg]; simp only [hsl]
    have hr : r = s.data.toList.drop (s.size - r.length) := by
      have h1 := Vi.get_eq hg
      have h2 : (Vi.put n).length = s.size - r.length := by
        have := congrArg List.length h1
        rw [hsl, List.length_append] at this
        omega
      conv => rhs; rw [← h2]
      rw [h1, List.drop_left]
    rw [hsl] at hrl
    obtain ⟨q, hq, hq1, hq2⟩ : ∃ q, s.size - r.length = q ∧ 1 ≤ q ∧ q ≤ s.size := ⟨_, rfl, by omega, by omega⟩
    have hq0 : ((q : Int) == 0) = false := by simp; omega
    rw [hq] at hr e1
    by_cases hlt : r.length < n
    · have e2 : takeR s.data.toList = ([], 0) := by rw [takeR, Vi.take, hg]; simp only; rw [if_pos hlt]
      have HE := Lib.hid e2
      rw [e1]
      have hqn : s.size - q < n := by omega
      clear hg e1 e2 hr hrl hq hlt hsl
      go_wp2
      go_ret2
      exact ⟨by rw [HE.out]; rfl, rfl⟩
    · have e2 : takeR s.data.toList = ((s.data.toList.drop q).take n, q + n) := by
        rw [takeR, Vi.take, hg]; simp only; rw [if_neg hlt]
        simp only [hsl, List.length_drop]
        rw [← hr]
        congr 1
        omega
      have HE := Lib.hid e2
      rw [e1]
      have hqn : n ≤ s.size - q := by omega
      have hqn2 : q + n ≤ s.size := by omega
      clear hg e1 e2 hr hrl hq hlt hsl
      go_wp2
      go_ret2
      exact ⟨by rw [HE.out]; exact ret2 (by rw [Lib.extract_data]; simp) rfl, rfl⟩
end Go.Proofs.Ytominjooffecnaa.WVi
