/- What layer 7's Get computes. -/
import Derived.Test.YtominjooffecnaaWPkN
import Derived.RegionTactic
namespace Go.Proofs.Ytominjooffecnaa.WPk
open Go.RowKit Kn

/-- what Get gives: the line, what stands behind it, the error -/
def getPN (s : List UInt8) : Pkt.Ln × List UInt8 × Nat := match Pkt.get s with
  | none => (⟨0, []⟩, [], 2)
  | some (p, r) => (p, r, 0)

theorem ret_get {k : Int} {a b : ByteArray} {n : Int} {k' : Int} {a' b' : ByteArray} {n' : Int} (h1 : k = k') (h2 : a.data.toList = a'.data.toList) (h3 : b.data.toList = b'.data.toList) (h4 : n = n') :
    Ending.returned (.tuple #[.agg #[.int .i64 k, .string a], .string b, .int .i64 n]) = .returned (.tuple #[.agg #[.int .i64 k', .string a'], .string b', .int .i64 n']) := by
  have e : a = a' := by rw [← Lib.mk_data a, ← Lib.mk_data a', h2]
  have e' : b = b' := by rw [← Lib.mk_data b, ← Lib.mk_data b', h3]
  rw [h1, e, e', h4]

theorem get_bad {s : List UInt8} (h : Pkt.number s = none ∨ ∃ n, Pkt.number s = some n ∧ n ≠ 0 ∧ n ≠ 1 ∧ (n < 4 ∨ 1004 < n ∨ s.length < n)) : getPN s = (⟨0, []⟩, [], 2) := by
  rw [getPN, Pkt.get]
  rcases h with h | ⟨n, h, h0, h1, hb⟩
  · rw [h]
  · rw [h]
    simp only
    rw [if_neg h0, if_neg h1, if_pos hb]

set_option maxRecDepth 100000 in
set_option maxHeartbeats 2000000 in
theorem get_any (s : ByteArray) (w : World) (hs : s.size ≤ 9223372036854775807) :
    Calls Try.prog 45 #[.string s] w fun e w' => e = .returned (.tuple #[.agg #[.int .i64 (getPN s.data.toList).1.kind, .string ⟨(getPN s.data.toList).1.load.toArray⟩], .string ⟨(getPN s.data.toList).2.1.toArray⟩, .int .i64 (getPN s.data.toList).2.2]) ∧ Below w.heap.size w w' := by
  have hsl : s.data.toList.length = s.size := by simp
  go_enter Try.func45, Try.ntmps45
  go_wp2_with fail
  refine (number_any _ _ hs).mono ?_
  rintro e w1 ⟨rfl, rfl⟩
  cases hn : Pkt.number s.data.toList with
  | none =>
    have HE := Lib.hid (get_bad (.inl hn))
    rw [show numI (none : Option Nat) = -1 from rfl]
    clear hn hsl
    go_wp2
    refine bodyPost_ret (v := .tuple #[.agg #[.int .i64 0, .string ⟨#[]⟩], .string ⟨#[]⟩, .int .i64 2]) (by simp [results, Try.results45, go_sem]) rfl ⟨?_, (Below.refl _ _).alloc (Nat.le_refl _) _⟩
    rw [HE.out]; rfl
  | some n =>
    have hfn := Pkt.figures_number hn
    have h65 := hfn.1
    have hl4 := hfn.2.1
    clear hfn
    rw [hsl] at hl4
    have h4 : (4 : Int) ≤ s.size := by omega
    rw [show numI (some n) = (n : Int) from rfl]
    by_cases h0 : n = 0
    · subst h0
      have HE := Lib.hid (show getPN s.data.toList = (⟨1, []⟩, s.data.toList.drop 4, 0) by rw [getPN, Pkt.get, hn]; rfl)
      clear hn hsl
      go_wp2
      go_region
      go_wp2
      refine bodyPost_ret (v := .tuple #[.agg #[.int .i64 1, .string ⟨#[]⟩], .string (s.extract 4 s.size), .int .i64 0]) (by simp [results, Try.results45, go_sem]) rfl ⟨?_, ((Below.refl _ _).alloc (Nat.le_refl _) _).drew⟩
      rw [HE.out]
      exact ret_get rfl rfl (by rw [Lib.extract_data]; exact List.take_of_length_le (by simp)) rfl
    · by_cases h1 : n = 1
      · subst h1
        have HE := Lib.hid (show getPN s.data.toList = (⟨2, []⟩, s.data.toList.drop 4, 0) by rw [getPN, Pkt.get, hn]; rfl)
        clear hn hsl h0
        go_wp2
        go_region
        go_wp2
        refine bodyPost_ret (v := .tuple #[.agg #[.int .i64 2, .string ⟨#[]⟩], .string (s.extract 4 s.size), .int .i64 0]) (by simp [results, Try.results45, go_sem]) rfl ⟨?_, ((Below.refl _ _).alloc (Nat.le_refl _) _).drew⟩
        rw [HE.out]
        exact ret_get rfl rfl (by rw [Lib.extract_data]; exact List.take_of_length_le (by simp)) rfl
      · have h0' : ((n : Int) == 0) = false := by simp; omega
        have h1' : ((n : Int) == 1) = false := by simp; omega
        by_cases hb : n < 4 ∨ 1004 < n ∨ s.size < n
        · have HE := Lib.hid (get_bad (.inr ⟨n, hn, h0, h1, by rw [hsl]; exact hb⟩))
          clear hn hsl h0 h1
          have hb' : n < 4 ∨ (4 ≤ n ∧ 1004 < n) ∨ (4 ≤ n ∧ n ≤ 1004 ∧ s.size < n) := by omega
          clear hb
          rcases hb' with hb | ⟨hb1, hb⟩ | ⟨hb1, hb2, hb⟩
          all_goals
            go_wp2
            refine bodyPost_ret (v := .tuple #[.agg #[.int .i64 0, .string ⟨#[]⟩], .string ⟨#[]⟩, .int .i64 2]) (by simp [results, Try.results45, go_sem]) rfl ⟨?_, (Below.refl _ _).alloc (Nat.le_refl _) _⟩
            rw [HE.out]; rfl
        · have HE := Lib.hid (show getPN s.data.toList = (⟨0, (s.data.toList.drop 4).take (n - 4)⟩, s.data.toList.drop n, 0) by
            rw [getPN, Pkt.get, hn]
            simp only
            rw [if_neg h0, if_neg h1, if_neg (by rw [hsl]; exact hb)])
          have hn4 : 4 ≤ n := by omega
          have hn1 : n ≤ 1004 := by omega
          have hns : n ≤ s.size := by omega
          have hn4' : (4 : Int) ≤ n := by omega
          have hns' : (n : Int) ≤ s.size := by omega
          clear hn hsl h0 h1 hb
          go_wp2
          go_region
          go_wp2
          refine bodyPost_ret (v := .tuple #[.agg #[.int .i64 0, .string (s.extract 4 n)], .string (s.extract n s.size), .int .i64 0]) (by simp [results, Try.results45, go_sem]) rfl ⟨?_, ((Below.refl _ _).alloc (Nat.le_refl _) _).drew⟩
          rw [HE.out]
          exact ret_get rfl (by rw [Lib.extract_data]) (by rw [Lib.extract_data]; exact List.take_of_length_le (by simp)) rfl
end Go.Proofs.Ytominjooffecnaa.WPk
