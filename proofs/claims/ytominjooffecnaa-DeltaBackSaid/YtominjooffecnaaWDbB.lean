/- What Make of layer 6 makes; the walk of the law DeltaBack. -/
import Derived.Test.YtominjooffecnaaWDbS
namespace Go.Proofs.Ytominjooffecnaa.WDl
open Go.RowKit Kn WVi

/-- what a delta that was made is good for -/
structure Made (base text d : ByteArray) : Prop where
  size : d.size ≤ text.size + 30
  own : base = text → d.size ≤ 40
  at_ : Dl.apply base.data.toList d.data.toList text.size = (text.data.toList, 0)
  low : ∀ most : Int, 0 ≤ most → most < text.size → Dl.apply base.data.toList d.data.toList most = ([], 3)
  base_ : ∀ b : ByteArray, b.size ≠ base.size → Dl.apply b.data.toList d.data.toList text.size = ([], 6)
  told : Dl.size d.data.toList = (text.size, 0)

theorem made_of {base text : ByteArray} {out : List UInt8} (hb : base.size ≤ 1501) (ht : text.size ≤ 1501) (h : Dl.Ok base.data.toList text.data.toList out) (hl : out.length ≤ text.size + 10) (ho : base = text → out.length ≤ 20) :
    Made base text ⟨(Dl.dl base.data.toList text.data.toList out).toArray⟩ := by
  have hbl : base.data.toList.length = base.size := by simp
  have htl : text.data.toList.length = text.size := by simp
  have hdl := Dl.dl_le base.data.toList text.data.toList out
  refine ⟨?_, ?_, ?_, ?_, ?_, ?_⟩
  · rw [size_mk]; omega
  · intro e; rw [size_mk]; have := ho e; omega
  · exact Dl.apply_dl h (by omega) (by omega) _ (by omega)
  · intro most h0 h1
    exact Dl.apply_low (by omega) (by omega) _ h0 (by omega)
  · intro b hne
    exact Dl.apply_base (by omega) (by omega) _ (by omega) (by simp; omega)
  · have := Dl.size_dl (base := base.data.toList) (text := text.data.toList) (out := out) (by omega) (by omega)
    rw [htl] at this
    exact this

set_option maxRecDepth 100000 in
set_option maxHeartbeats 4000000 in
theorem make_any (base text : ByteArray) (hb : base.size ≤ 1501) (ht : text.size ≤ 1501) (w : World) :
    Calls Try.prog 64 #[.string base, .string text] w fun e w' => ∃ d : ByteArray, e = .returned (.string d) ∧ d.size ≤ 2000 ∧ Hid (Made base text d) ∧ Below w.heap.size w w' := by
  have hbl : base.data.toList.length = base.size := by simp
  have htl : text.data.toList.length = text.size := by simp
  have HP := Lib.hid (Dl.ok_plain base.data.toList text.data.toList (by omega))
  have hpl := Dl.plain_le text.data.toList
  rw [htl] at hpl
  go_enter Try.func64, Try.ntmps64
  go_wp2_with fail
  refine (steps_any base text hb ht _).mono ?_
  rintro e w1 ⟨out, rfl, HO, hol, HOw, hb1⟩
  go_wp2_with fail
  refine (plain_any text (by omega) _).mono ?_
  rintro e w2 ⟨rfl, hb2⟩
  have hB2 := bnext hb1 hb2
  clear hb1 hb2
  obtain ⟨X, HX, hxl, hxo, hxx⟩ : ∃ X : List UInt8, Hid (Dl.Ok base.data.toList text.data.toList X) ∧ X.length ≤ text.size + 10 ∧ Hid (base = text → X.length ≤ 20) ∧ Hid (X = if (Dl.plainN text.data.toList).length < out.length then Dl.plainN text.data.toList else out) := by
    by_cases h : (Dl.plainN text.data.toList).length < out.length
    · exact ⟨_, HP, hpl, (fun e => by have := HOw.out e; omega), by show _ = _; rw [if_pos h]⟩
    · exact ⟨out, HO, by omega, HOw, by show _ = _; rw [if_neg h]⟩
  have hM := made_of hb ht HX.out hxl hxo.out
  have hpu1 := Vi.put_le base.size
  have hpu2 := Vi.put_le text.size
  have HDL : Hid (Dl.dl base.data.toList text.data.toList X = Vi.put base.size ++ (Vi.put text.size ++ X)) := by
    show _ = _
    rw [Dl.dl, hbl, htl]
  have HM := Lib.hid hM
  clear hM HX hxo HO HOw HP
  have hlimA : (9223372036854775807 < (Vi.put base.size).length + (Vi.put text.size).length) = False := by simp; omega
  have hlimB : (9223372036854775807 < (Vi.put base.size).length + (Vi.put text.size).length + X.length) = False := by simp; omega
  have hfin : ∀ w' : World, Below w.heap.size w w' → ∃ d : ByteArray, Ending.returned (.string ((⟨(Vi.put base.size).toArray⟩ : ByteArray) ++ ⟨(Vi.put text.size).toArray⟩ ++ ⟨X.toArray⟩)) = .returned (.string d) ∧ d.size ≤ 2000 ∧ Hid (Made base text d) ∧ Below w.heap.size w w' := by
    intro w' hb'
    refine ⟨⟨(Dl.dl base.data.toList text.data.toList X).toArray⟩, ret_bytes ?_, ?_, HM, hb'⟩
    · rw [HDL.out, cat_data, cat_data, List.append_assoc]
    · rw [size_mk, HDL.out]; simp; omega
  have HF := Lib.hid hfin
  clear hfin HM HDL
  generalize Dl.plainN text.data.toList = Q at *
  by_cases hlt : Q.length < out.length
  · have hX := hxx.out
    rw [if_pos hlt] at hX
    subst hX
    have hlt' : (X.length : Int) < (out.length : Int) := by omega
    clear hxx
    go_wp2_with fail
    refine (put_any base.size (by omega) _).mono ?_
    rintro e w3 ⟨rfl, hb3⟩
    have hB3 := bnext hB2 hb3
    clear hB2 hb3
    go_wp2_with fail
    refine (put_any text.size (by omega) _).mono ?_
    rintro e w4 ⟨rfl, hb4⟩
    have hB4 := bnext hB3 hb4
    clear hB3 hb4
    go_wp2
    go_ret
    exact HF.out _ hB4
  · have hX := hxx.out
    rw [if_neg hlt] at hX
    subst hX
    have hlt' : ¬ ((Q.length : Int) < (X.length : Int)) := by omega
    clear hxx
    go_wp2_with fail
    refine (put_any base.size (by omega) _).mono ?_
    rintro e w3 ⟨rfl, hb3⟩
    have hB3 := bnext hB2 hb3
    clear hB2 hb3
    go_wp2_with fail
    refine (put_any text.size (by omega) _).mono ?_
    rintro e w4 ⟨rfl, hb4⟩
    have hB4 := bnext hB3 hb4
    clear hB3 hb4
    go_wp2
    go_ret
    exact HF.out _ hB4

theorem mkb (s : ByteArray) : (⟨s.data.toList.toArray⟩ : ByteArray) = s := Lib.mk_data s

set_option maxRecDepth 100000 in
set_option maxHeartbeats 8000000 in
theorem back (base : ByteArray) (_hbs : base.size ≤ 140737488351232) (text : ByteArray) (_hts : text.size ≤ 140737488351232) (w : World) :
    Calls Try.prog 17 #[.string base, .string text] w fun e w' => e = .returned (.bool true) ∧ Below w.heap.size w w' := by
  by_cases hs : base.size ≤ 1500 ∧ text.size ≤ 1500
  · obtain ⟨hb, ht⟩ := hs
    go_enter Try.func17, Try.ntmps17
    go_wp2_with fail
    refine (make_any base text (by omega) (by omega) _).mono ?_
    rintro e w1 ⟨d, rfl, hd, HM, hb1⟩
    have hsz := HM.out.size
    go_wp2_with fail
    refine (apply_any base d text.size (by omega) (by omega) (by omega) (by omega) _).mono ?_
    rintro e w2 ⟨rfl, hb2⟩
    rw [HM.out.at_]
    simp only [mkb]
    have hB2 := bnext hb1 hb2
    clear hb1 hb2
    go_wp2_with fail
    refine (applyR_any base d text.size (by omega) (by omega) (by omega) (by omega) _).mono ?_
    rintro e w3 ⟨rfl, rfl⟩
    rw [HM.out.at_]
    simp only [mkb]
    have hsz' : ¬ ((text.size : Int) + 30 < (d.size : Int)) := by omega
    obtain ⟨xs, xn, HX, hx3⟩ : ∃ (xs : List UInt8) (xn : Nat), Hid (Dl.apply base.data.toList d.data.toList ((text.size : Int) - 1) = (xs, xn)) ∧ ((text = ⟨#[]⟩) ∨ (xn = 3 ∧ text.toList.isEmpty = false)) := by
      by_cases h0 : text.size = 0
      · exact ⟨[], 1, Dl.apply_neg _ _ _ (by omega), .inl (by
          have : text.data.toList = [] := List.eq_nil_of_length_eq_zero (by simpa using h0)
          exact eq_empty this)⟩
      · exact ⟨[], 3, HM.out.low _ (by omega) (by omega), .inr ⟨rfl, by
          have e : text.toList = text.data.toList := Lib.toList_data text
          rw [e]
          cases hx : text.data.toList with
          | nil => exact absurd (show text.size = 0 by have : text.data.toList.length = 0 := (by rw [hx]; rfl); simpa using this) h0
          | cons a l => rfl⟩⟩
    go_wp2_with fail
    refine (apply_any base d ((text.size : Int) - 1) (by omega) (by omega) (by omega) (by omega) _).mono ?_
    rintro e w4 ⟨rfl, hb4⟩
    rw [HX.out]
    have hB4 := bnext hB2 hb4
    clear hb4 hB2 HX
    have hlimX : (9223372036854775807 < base.size + 1) = False := by simp; omega
    go_wp2_with fail
    have hzx : ∀ z : ByteArray, z.size = 1 → (base ++ z).size ≤ 5000 := fun z hz => by rw [ByteArray.size_append]; omega
    have hzy : ∀ z : ByteArray, z.size = 1 → (base ++ z).size ≠ base.size := fun z hz => by rw [ByteArray.size_append]; omega
    refine (apply_any _ d text.size (hzx _ rfl) (by omega) (by omega) (by omega) _).mono ?_
    rintro e w5 ⟨rfl, hb5⟩
    rw [HM.out.base_ _ (hzy _ rfl)]
    have hB5 := bnext hB4 hb5
    clear hb5 hB4 hzx hzy
    go_wp2_with fail
    refine (size_any d (by omega) _).mono ?_
    rintro e w6 ⟨rfl, hb6⟩
    rw [HM.out.told]
    have hB6 := bnext hB5 hb6
    clear hb6 hB5 HM
    rcases hx3 with rfl | ⟨rfl, hne⟩
    · go_wp2_with fail
      refine (make_any base base (by omega) (by omega) _).mono ?_
      rintro e w7 ⟨d2, rfl, hd2, HM2, hb7⟩
      have hB7 := bnext hB6 hb7
      have ho2 := HM2.out.own rfl
      clear hb7 hB6
      go_wp2_with fail
      refine (apply_any base d2 base.size (by omega) (by omega) (by omega) (by omega) _).mono ?_
      rintro e w8 ⟨rfl, hb8⟩
      rw [HM2.out.at_]
      simp only [mkb]
      have hB8 := bnext hB7 hb8
      clear hb8 hB7
      go_wp2_with fail
      refine (knows_any _).mono ?_
      rintro e w9 ⟨rfl, hb9⟩
      have ho2' : (d2.size : Int) ≤ 40 := by omega
      go_wp2
      go_ret
      exact ⟨rfl, bnext hB8 hb9⟩
    · go_wp2_with fail
      refine (make_any base base (by omega) (by omega) _).mono ?_
      rintro e w7 ⟨d2, rfl, hd2, HM2, hb7⟩
      have hB7 := bnext hB6 hb7
      have ho2 := HM2.out.own rfl
      clear hb7 hB6
      go_wp2_with fail
      refine (apply_any base d2 base.size (by omega) (by omega) (by omega) (by omega) _).mono ?_
      rintro e w8 ⟨rfl, hb8⟩
      rw [HM2.out.at_]
      simp only [mkb]
      have hB8 := bnext hB7 hb8
      clear hb8 hB7
      go_wp2_with fail
      refine (knows_any _).mono ?_
      rintro e w9 ⟨rfl, hb9⟩
      have ho2' : (d2.size : Int) ≤ 40 := by omega
      go_wp2
      go_ret
      exact ⟨rfl, bnext hB8 hb9⟩
  · by_cases h1 : 1500 < base.size
    · clear hs
      go_enter Try.func17, Try.ntmps17
      go_wp2_with fail
      refine (knows_any _).mono ?_
      rintro e w2 ⟨rfl, hb2⟩
      go_wp2
      go_ret
      exact ⟨rfl, hb2⟩
    · have h2 : 1500 < text.size := by omega
      clear hs
      go_enter Try.func17, Try.ntmps17
      go_wp2_with fail
      refine (knows_any _).mono ?_
      rintro e w2 ⟨rfl, hb2⟩
      go_wp2
      go_ret
      exact ⟨rfl, hb2⟩
end Go.Proofs.Ytominjooffecnaa.WDl
