/- The walks of the laws VarintTells and VarintBack: they return true, and what was there stays. -/
import Derived.Test.YtominjooffecnaaWViS
import Derived.OpenShut
namespace Go.Proofs.Ytominjooffecnaa.WVi
open Go.RowKit Kn

set_option maxRecDepth 100000 in
set_option maxHeartbeats 1000000 in
theorem knows_any (w : World) : Calls Try.prog 40 #[] w fun e w' => e = .returned (.bool true) ∧ Below w.heap.size w w' := by
  have k1 : getN [128, 0] = (0, [], 2) := by decide +kernel
  have k2 : takeN [2, 97, 98, 99] = ([97, 98], [99], 0) := by decide +kernel
  have k3 : Vi.put 300 = [172, 2] := by decide +kernel
  have k4 : Vi.text [97, 98] = [2, 97, 98] := by decide +kernel
  go_enter Try.func40, Try.ntmps40
  go_wp2_with fail
  refine (get_any _ (by decide) _).mono ?_
  rintro e w1 ⟨rfl, hb1⟩
  go_wp2_with fail
  refine (take_any _ (by decide) _).mono ?_
  rintro e w2 ⟨rfl, hb2⟩
  go_wp2_with fail
  refine (put_any 300 (by decide) _).mono ?_
  rintro e w3 ⟨rfl, hb3⟩
  go_wp2_with fail
  refine (text_any _ (by decide) _).mono ?_
  rintro e w4 ⟨rfl, hb4⟩
  go_wp2
  go_ret
  exact ⟨rfl, bnext (bnext (bnext hb1 hb2) hb3) hb4⟩

theorem ret_bool {a b : Bool} (h : a = b) : Ending.returned (.bool a) = .returned (.bool b) := by rw [h]

theorem ext_drop (s : ByteArray) (q : Nat) : (s.extract q s.size).toList = s.data.toList.drop q := by
  rw [Lib.extract_toList]
  exact List.take_of_length_le (by simp)

theorem cat_toList {a b : List UInt8} {s : ByteArray} (h : a ++ b = s.data.toList) : ((⟨a.toArray⟩ : ByteArray) ++ (⟨b.toArray⟩ : ByteArray)).toList = s.toList := by
  rw [Lib.toList_data, Lib.toList_data, cat_data, ← h]

theorem drop_of_cat {a b l : List UInt8} (h : l = a ++ b) : b = l.drop (l.length - b.length) := by
  subst h
  rw [List.length_append, Nat.add_sub_cancel, List.drop_left]

theorem get_cases (l : List UInt8) : (getN l = (0, [], 2) ∧ getR l = (0, 0)) ∨ ∃ m q, 1 ≤ q ∧ q ≤ l.length ∧ getN l = (m, l.drop q, 0) ∧ getR l = (m, q) := by
  unfold getN getR
  cases hg : Vi.get l with
  | none => exact .inl ⟨rfl, rfl⟩
  | some p =>
    obtain ⟨n, r⟩ := p
    have h1 := get_rest_le hg
    have h2 := drop_of_cat (Vi.get_eq hg)
    refine .inr ⟨n, l.length - r.length, by omega, by omega, ?_, rfl⟩
    simp only
    rw [← h2]

theorem take_cases (l : List UInt8) (hl : l.length < 18446744073709551616) : (takeN l = ([], [], 2) ∧ takeR l = ([], 0)) ∨ ∃ m q, 1 ≤ q ∧ q ≤ l.length ∧ takeN l = (m, l.drop q, 0) ∧ takeR l = (m, q) := by
  unfold takeN takeR
  cases hg : Vi.take l with
  | none => exact .inl ⟨rfl, rfl⟩
  | some p =>
    obtain ⟨t, r⟩ := p
    have h1 := (Vi.take_iff l t r hl).1 hg
    have h2 := drop_of_cat h1
    have h3 := Vi.put_pos t.length
    have h4 := congrArg List.length h1
    rw [List.length_append] at h4
    unfold Vi.text at h4
    rw [List.length_append] at h4
    refine .inr ⟨t, l.length - r.length, by omega, by omega, ?_, rfl⟩
    simp only
    rw [← h2]

set_option maxRecDepth 100000 in
set_option maxHeartbeats 1000000 in
theorem tells (n : Nat) (hn : n < 18446744073709551616) (s t : ByteArray) (hs : s.size ≤ 140737488351232) (ht : t.size ≤ 140737488351232) (w : World) :
    Calls Try.prog 8 #[.int .u64 n, .string s, .string t] w fun e w' => e = .returned (.bool true) ∧ Below w.heap.size w w' := by
  go_enter Try.func8, Try.ntmps8
  go_wp2_with fail
  refine (put_any _ hn _).mono ?_
  rintro e w1 ⟨rfl, hb1⟩
  go_wp2_with fail
  refine (putR_any _ hn _).mono ?_
  rintro e w2 ⟨rfl, hb2⟩
  go_wp2_with fail
  refine (text_any _ (by omega) _).mono ?_
  rintro e w3 ⟨rfl, hb3⟩
  go_wp2_with fail
  refine (textR_any _ (by omega) _).mono ?_
  rintro e w4 ⟨rfl, hb4⟩
  go_wp2_with fail
  refine (get_any _ (by omega) _).mono ?_
  rintro e w5 ⟨rfl, hb5⟩
  go_wp2_with fail
  refine (getR_any _ (by omega) _).mono ?_
  rintro e w6 ⟨rfl, rfl⟩
  go_wp2_with fail
  refine (take_any _ (by omega) _).mono ?_
  rintro e w7 ⟨rfl, hb7⟩
  go_wp2_with fail
  refine (takeR_any _ (by omega) _).mono ?_
  rintro e w8 ⟨rfl, rfl⟩
  have hB := bnext (bnext (bnext (bnext (bnext hb1 hb2) hb3) hb4) hb5) hb7
  clear hb1 hb2 hb3 hb4 hb5 hb7
  have hsl : s.data.toList.length = s.size := by simp
  have hG := get_cases s.data.toList
  have hT := take_cases s.data.toList (by omega)
  rw [hsl] at hG hT
  clear hsl
  rcases hG with ⟨g1, g2⟩ | ⟨m, q, hq1, hq2, g1, g2⟩
  · rw [g1, g2]
    clear g1 g2
    rcases hT with ⟨t1, t2⟩ | ⟨m', q', hq1', hq2', t1, t2⟩
    · rw [t1, t2]
      clear t1 t2
      go_wp2_with fail
      refine (knows_any _).mono ?_
      rintro e w9 ⟨rfl, hb9⟩
      go_wp2
      go_ret
      exact ⟨rfl, bnext hB hb9⟩
    · rw [t1, t2]
      clear t1 t2
      have hz : ((q' : Int) == 0) = false := by simp; omega
      have hx := ext_drop s q'
      go_wp2_with fail
      refine (knows_any _).mono ?_
      rintro e w9 ⟨rfl, hb9⟩
      go_wp2
      go_ret
      exact ⟨rfl, bnext hB hb9⟩
  · have hz : ((q : Int) == 0) = false := by simp; omega
    rw [g1, g2]
    clear g1 g2
    have hx := ext_drop s q
    rcases hT with ⟨t1, t2⟩ | ⟨m', q', hq1', hq2', t1, t2⟩
    · rw [t1, t2]
      clear t1 t2
      go_wp2_with fail
      refine (knows_any _).mono ?_
      rintro e w9 ⟨rfl, hb9⟩
      go_wp2
      go_ret
      exact ⟨rfl, bnext hB hb9⟩
    · rw [t1, t2]
      clear t1 t2
      have hz' : ((q' : Int) == 0) = false := by simp; omega
      have hx' := ext_drop s q'
      go_wp2_with fail
      refine (knows_any _).mono ?_
      rintro e w9 ⟨rfl, hb9⟩
      go_wp2
      go_ret
      exact ⟨rfl, bnext hB hb9⟩

set_option maxRecDepth 100000 in
set_option maxHeartbeats 1000000 in
theorem back (n : Nat) (hn : n < 18446744073709551616) (t s : ByteArray) (ht : t.size ≤ 140737488351232) (hs : s.size ≤ 140737488351232) (w : World) :
    Calls Try.prog 9 #[.int .u64 n, .string t, .string s] w fun e w' => e = .returned (.bool true) ∧ Below w.heap.size w w' := by
  have hpl := Vi.put_le n
  have htl : (Vi.text t.data.toList).length ≤ t.size + 10 := by
    have := Vi.put_le t.size
    unfold Vi.text
    rw [List.length_append]
    simp only [Array.length_toList, ByteArray.size_data]
    omega
  have G1 : Hid (getN ((⟨(Vi.put n).toArray⟩ : ByteArray) ++ s).data.toList = (n, s.data.toList, 0)) := by
    show _ = _
    rw [cat_data, getN, Vi.get_put n hn]
  have T1 : Hid (takeN ((⟨(Vi.text t.data.toList).toArray⟩ : ByteArray) ++ s).data.toList = (t.data.toList, s.data.toList, 0)) := by
    show _ = _
    rw [cat_data, takeN, (Vi.take_iff _ t.data.toList s.data.toList ?_).2 rfl]
    rw [List.length_append]
    simp only [Array.length_toList, ByteArray.size_data]
    omega
  go_enter Try.func9, Try.ntmps9
  go_wp2_with fail
  refine (put_any _ hn _).mono ?_
  rintro e w1 ⟨rfl, hb1⟩
  go_wp2_with fail
  refine (get_any _ (by rw [ByteArray.size_append, size_mk]; omega) _).mono ?_
  rintro e w2 ⟨rfl, hb2⟩
  rw [G1.out]
  go_wp2_with fail
  refine (text_any _ (by omega) _).mono ?_
  rintro e w3 ⟨rfl, hb3⟩
  go_wp2_with fail
  refine (take_any _ (by rw [ByteArray.size_append, size_mk]; omega) _).mono ?_
  rintro e w4 ⟨rfl, hb4⟩
  rw [T1.out]
  have hB := bnext (bnext (bnext hb1 hb2) hb3) hb4
  clear hb1 hb2 hb3 hb4 hpl htl
  go_wp2_with fail
  refine (get_any _ (by omega) _).mono ?_
  rintro e w5 ⟨rfl, hb5⟩
  have hG : getN s.data.toList = (0, [], 2) ∨ ∃ m r, m < 18446744073709551616 ∧ r.length ≤ s.size ∧ getN s.data.toList = (m, r, 0) ∧ Vi.put m ++ r = s.data.toList := by
    unfold getN
    cases hg : Vi.get s.data.toList with
    | none => exact .inl rfl
    | some p =>
      have h1 := get_rest_le hg
      simp only [Array.length_toList, ByteArray.size_data] at h1
      exact .inr ⟨p.1, p.2, Vi.get_lt hg, by omega, rfl, (Vi.get_eq hg).symm⟩
  have hT : takeN s.data.toList = ([], [], 2) ∨ ∃ m r, m.length ≤ s.size ∧ r.length ≤ s.size ∧ takeN s.data.toList = (m, r, 0) ∧ Vi.text m ++ r = s.data.toList := by
    unfold takeN
    have hsl : s.data.toList.length = s.size := by simp
    cases hg : Vi.take s.data.toList with
    | none => exact .inl rfl
    | some p =>
      have h1 := (Vi.take_iff _ p.1 p.2 (by omega)).1 hg
      have h2 := congrArg List.length h1
      rw [hsl, List.length_append, Vi.text, List.length_append] at h2
      exact .inr ⟨p.1, p.2, by omega, by omega, rfl, h1.symm⟩
  have HT := Lib.hid hT
  clear hT
  rcases hG with g1 | ⟨m, r, hm, hr, g1, g2⟩
  · rw [g1]
    clear g1
    go_wp2_with fail
    refine (take_any _ (by omega) _).mono ?_
    rintro e w6 ⟨rfl, hb6⟩
    rcases HT.out with t1 | ⟨m', r', hm', hr', t1, t2⟩
    · rw [t1]
      clear t1
      go_wp2_with fail
      refine (knows_any _).mono ?_
      rintro e w9 ⟨rfl, hb9⟩
      go_wp2
      go_ret
      exact ⟨rfl, bnext (bnext (bnext hB hb5) hb6) hb9⟩
    · rw [t1]
      clear t1
      have H2 := Lib.hid (cat_toList t2)
      have hpl := Vi.put_le m'.length
      clear t2
      go_wp2_with fail
      refine (knows_any _).mono ?_
      rintro e w9 ⟨rfl, hb9⟩
      go_wp2_with fail
      refine (text_any _ (by rw [size_mk]; omega) _).mono ?_
      rintro e w10 ⟨rfl, hb10⟩
      have hsz : (⟨(Vi.text m').toArray⟩ : ByteArray).size ≤ 140737488351242 := by rw [size_mk, Vi.text, List.length_append]; omega
      have hsz2 : (⟨r'.toArray⟩ : ByteArray).size ≤ 140737488351242 := by rw [size_mk]; omega
      have h2 := H2.out
      go_wp2
      go_ret
      exact ⟨rfl, bnext (bnext (bnext (bnext hB hb5) hb6) hb9) hb10⟩
  · rw [g1]
    clear g1
    have H1 := Lib.hid (cat_toList g2)
    have hpl := Vi.put_le m
    clear g2
    go_wp2_with fail
    refine (put_any _ hm _).mono ?_
    rintro e w51 ⟨rfl, hb51⟩
    have hsz : (⟨(Vi.put m).toArray⟩ : ByteArray).size ≤ 140737488351242 := by rw [size_mk]; omega
    have hsz2 : (⟨r.toArray⟩ : ByteArray).size ≤ 140737488351242 := by rw [size_mk]; omega
    have h1 := H1.out
    have hb5 := bnext hb5 hb51
    go_wp2_with fail
    refine (take_any _ (by omega) _).mono ?_
    rintro e w6 ⟨rfl, hb6⟩
    clear hsz hsz2 hpl h1
    rcases HT.out with t1 | ⟨m', r', hm', hr', t1, t2⟩
    · rw [t1]
      clear t1
      go_wp2_with fail
      refine (knows_any _).mono ?_
      rintro e w9 ⟨rfl, hb9⟩
      go_wp2
      go_ret
      exact ⟨rfl, bnext (bnext (bnext hB hb5) hb6) hb9⟩
    · rw [t1]
      clear t1
      have H2 := Lib.hid (cat_toList t2)
      have hpl := Vi.put_le m'.length
      clear t2
      go_wp2_with fail
      refine (knows_any _).mono ?_
      rintro e w9 ⟨rfl, hb9⟩
      go_wp2_with fail
      refine (text_any _ (by rw [size_mk]; omega) _).mono ?_
      rintro e w10 ⟨rfl, hb10⟩
      have hsz : (⟨(Vi.text m').toArray⟩ : ByteArray).size ≤ 140737488351242 := by rw [size_mk, Vi.text, List.length_append]; omega
      have hsz2 : (⟨r'.toArray⟩ : ByteArray).size ≤ 140737488351242 := by rw [size_mk]; omega
      have h2 := H2.out
      go_wp2
      go_ret
      exact ⟨rfl, bnext (bnext (bnext (bnext hB hb5) hb6) hb9) hb10⟩

theorem tells_int (n : Int) (hn : (Lit.int .u64 n).wf = true) (s : ByteArray) (hs : s.size ≤ 140737488351232) (t : ByteArray) (ht : t.size ≤ 140737488351232) (w : World) :
    Calls Try.prog 8 #[.int .u64 n, .string s, .string t] w fun e w' => e = .returned (.bool true) ∧ Below w.heap.size w w' := by
  have h1 := bounds_u64 hn
  obtain ⟨n, rfl⟩ := Int.eq_ofNat_of_zero_le h1.1
  exact tells n (by omega) s t hs ht w

theorem back_int (n : Int) (hn : (Lit.int .u64 n).wf = true) (t : ByteArray) (ht : t.size ≤ 140737488351232) (s : ByteArray) (hs : s.size ≤ 140737488351232) (w : World) :
    Calls Try.prog 9 #[.int .u64 n, .string t, .string s] w fun e w' => e = .returned (.bool true) ∧ Below w.heap.size w w' := by
  have h1 := bounds_u64 hn
  obtain ⟨n, rfl⟩ := Int.eq_ofNat_of_zero_le h1.1
  exact back n (by omega) t s ht hs w

end Go.Proofs.Ytominjooffecnaa.WVi
