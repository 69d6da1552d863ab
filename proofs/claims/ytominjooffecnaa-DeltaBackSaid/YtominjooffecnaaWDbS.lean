/- What the steps of a delta are (layer 6). -/
import Derived.Test.YtominjooffecnaaWDbM
import Derived.Carry
import Derived.Deep.RegionWith
namespace Go.Proofs.Ytominjooffecnaa.WDl
open Go.RowKit Go.Maps Kn WVi

theorem map_below {H : Type} {P : Program} {w w' : World} {k : TypeId} {R : Value → Option (DataW H × List MemPlace)} {b n : Nat} {D : DataW H} (h : w.ownsMap P k R b n D) (hb : Below w.heap.size w w') : w'.ownsMap P k R b n D := by
  obtain ⟨es, clock, hh, h2⟩ := h
  have hlt : b < w.heap.size := (Array.getElem?_eq_some_iff.1 hh).1
  exact ⟨es, clock, by rw [hb.block b hlt]; exact hh, h2⟩

theorem alike_one {a b : ByteArray} {A B : List UInt8} (ha : a.data.toList = A) (hb : b.data.toList = B) {n : Nat} (h : a.data.toList.take n = b.data.toList.take n ∧ ((ha : n < a.size) → (hb : n < b.size) → a[n] ≠ b[n])) (hA : 4 ≤ A.length) (hB : 4 ≤ B.length) (hk : Dl.keyN A = Dl.keyN B) : 1 ≤ n := by
  subst ha hb
  rcases Nat.eq_zero_or_pos n with h0 | h0
  · subst h0
    exfalso
    have h1 : 0 < a.size := by simp at hA; omega
    have h2 : 0 < b.size := by simp at hB; omega
    refine h.2 h1 h2 ?_
    have hh := Dl.keyN_head hA hB hk
    have e1 := drop_at a 0 h1
    have e2 := drop_at b 0 h2
    rw [List.drop_zero] at e1 e2
    rw [e1, e2] at hh
    simp at hh
    exact hh
  · exact h0
theorem alike_all {a b : ByteArray} (e : a = b) {n : Nat} (h : a.data.toList.take n = b.data.toList.take n ∧ ((ha : n < a.size) → (hb : n < b.size) → a[n] ≠ b[n])) (hn : n ≤ a.size) : n = a.size := by
  subst e
  by_cases hlt : n < a.size
  · exact absurd rfl (h.2 hlt hlt)
  · omega
theorem ext_mid (s : ByteArray) (p q : Nat) : (s.extract p q).data.toList = (s.data.toList.drop p).take (q - p) := by
  rw [Lib.extract_data]
theorem split3 (t : List UInt8) (fr i n : Nat) (h : fr ≤ i) : t.take fr ++ ((t.drop fr).take (i - fr) ++ (t.drop i).take n) = t.take (i + n) := by
  rw [← List.append_assoc, List.take_add (i := i)]
  congr 1
  rw [show i = fr + (i - fr) from by omega, List.take_add, show fr + (i - fr) - fr = i - fr from by omega]

set_option maxRecDepth 100000 in
set_option maxHeartbeats 8000000 in
theorem steps_any (base text : ByteArray) (hb : base.size ≤ 1501) (ht : text.size ≤ 1501) (w : World) :
    Calls Try.prog 77 #[.string base, .string text] w fun e w' => ∃ out : List UInt8, e = .returned (.string ⟨out.toArray⟩) ∧ Hid (Dl.Ok base.data.toList text.data.toList out) ∧ out.length ≤ 100000 ∧ Hid (base = text → out.length ≤ 20) ∧ Below w.heap.size w w' := by
  have hbl : base.data.toList.length = base.size := by simp
  have htl : text.data.toList.length = text.size := by simp
  have hmm := @run_makeMap Try.prog
  go_enter Try.func77, Try.ntmps77
  go_wp2
  go_loopw [6] (fun iv wr => ∃ (k : Nat) (D : DataW Unit), iv = .int .i64 k ∧ k ≤ base.size ∧ wr.ownsMap Try.prog 48 (plainElem Try.prog 3) w.heap.size k D ∧ Below w.heap.size w wr ∧ Hid (Mp D base.data.toList k)) (fun iv _ => base.size - (intOf iv).toNat)
  case atStart => exact ⟨0, .map [], rfl, Nat.zero_le _, World.ownsMap_made _ _ _ _, (Below.refl _ _).alloc (Nat.le_refl _) _, mp_nil _⟩
  case round =>
    obtain ⟨k, D, rfl, hk, hown, hbel, HM⟩ := hrel
    have hk0 : (0 : Int) ≤ (k : Int) := by omega
    by_cases h4 : k + 4 ≤ base.size
    · have h4' : (k : Int) + 4 ≤ (base.size : Int) := by omega
      have hks : (k : Int) ≤ (base.size : Int) := by omega
      have hz : (base.extract k base.size).size = base.size - k := by rw [ByteArray.size_extract]; omega
      go_wp2_with fail
      refine (key_any (base.extract k base.size) (by rw [hz]; omega) _).mono ?_
      rintro e w1 ⟨rfl, hb1⟩
      rw [ext_data]
      have hkl := Dl.keyN_lt (base.data.toList.drop k)
      have hkey : keyOf Try.prog 48 (.int .u32 (Dl.keyN (base.data.toList.drop k) : Int)) = some (.int .u32 (Dl.keyN (base.data.toList.drop k) : Int)) := keyOf_int_mk Try.underlying48 (by simp [Lit.wf, IntKind.min, IntKind.max, IntKind.signed, IntKind.bits]; omega)
      have hown1 := map_below hown hb1
      have hB1 := bnext hbel hb1
      clear hb1 hown hbel
      cases hh : Maps.has D (.int .u32 (Dl.keyN (base.data.toList.drop k) : Int))
      · have HN := Lib.hid (mp_new HM.out (by omega) hh)
        go_wp2_with (first
          | (at_lookup; refine wpList_lookup_own_ok_int _ rfl _ _ 131 rfl 48 3 .i64 law48 Try.underlying131 Try.underlying3 (zero3 _) w.heap.size k D rfl hown1 _ _ rfl hkey ?_; intro c hat hwc)
          | (at_mapUpdate; refine wpList_mapUpdate_own _ rfl _ _ _ 131 rfl 48 3 law48 Try.underlying131 (plainElem Try.prog 3) w.heap.size k D rfl hown1 (by unfold maxLen; omega) _ _ _ rfl rfl hkey _ [] (plainElem_int Try.underlying3 (WalkArith.wf_i64 (by omega))) ?_; intro w2 hown2 hgrow2)
          | fail)
        go_roundw
        case rel => exact ⟨k + 1, _, by go_num, by omega, hown2, hB1.grown hgrow2 hB1.size (fun j hj => by cases hj; exact Nat.le_refl _), HN⟩
        case measure => simp [intOf]; omega
      · have HN := Lib.hid (mp_old HM.out hh)
        go_wp2_with (first
          | (at_lookup; refine wpList_lookup_own_ok_int _ rfl _ _ 131 rfl 48 3 .i64 law48 Try.underlying131 Try.underlying3 (zero3 _) w.heap.size k D rfl hown1 _ _ rfl hkey ?_; intro c hat hwc)
          | fail)
        go_roundw
        case rel => exact ⟨k + 1, D, by go_num, by omega, hown1.mono (Nat.le_succ _), hB1, HN⟩
        case measure => simp [intOf]; omega
    · go_wp2
      go_loopw [10, 11, 12] (fun ov fv iv wr2 => ∃ (o : ByteArray) (fr i : Nat), ov = .string o ∧ fv = .int .i64 fr ∧ iv = .int .i64 i ∧ fr ≤ i ∧ i ≤ text.size ∧ o.size ≤ 31 * fr ∧ wr2.ownsMap Try.prog 48 (plainElem Try.prog 3) w.heap.size k D ∧ Below w.heap.size w wr2 ∧
        Hid (Dl.Ok base.data.toList (text.data.toList.take fr) o.data.toList ∧ (base = text → (i = 0 ∧ fr = 0 ∧ o.size = 0) ∨ (i = text.size ∧ fr = text.size ∧ o.size ≤ 20)))) (fun _ _ iv _ => text.size - (intOf iv).toNat)
      case atStart => exact ⟨⟨#[]⟩, 0, 0, rfl, rfl, rfl, Nat.le_refl _, Nat.zero_le _, Nat.zero_le _, hown, hbel, Dl.ok_nil _, fun _ => .inl ⟨rfl, rfl, rfl⟩⟩
      case round =>
        clear hown hbel
        obtain ⟨o, fr, i, rfl, rfl, rfl, hfi, hit, hos, hown, hbel, HO⟩ := hrel
        have hi0 : (0 : Int) ≤ (i : Int) := by omega
        have hf0 : (0 : Int) ≤ (fr : Int) := by omega
        have hfi' : (fr : Int) ≤ (i : Int) := by omega
        have hit' : (i : Int) ≤ (text.size : Int) := by omega
        have hft' : (fr : Int) ≤ (text.size : Int) := by omega
        have hzt : (text.extract i text.size).size = text.size - i := by rw [ByteArray.size_extract]; omega
        by_cases hi4 : i + 4 ≤ text.size
        · have hi4' : (i : Int) + 4 ≤ (text.size : Int) := by omega
          go_wp2_with fail
          refine (key_any (text.extract i text.size) (by rw [hzt]; omega) _).mono ?_
          rintro e w1 ⟨rfl, hb1⟩
          rw [ext_data]
          have hkl := Dl.keyN_lt (text.data.toList.drop i)
          have hkey : keyOf Try.prog 48 (.int .u32 (Dl.keyN (text.data.toList.drop i) : Int)) = some (.int .u32 (Dl.keyN (text.data.toList.drop i) : Int)) := keyOf_int_mk Try.underlying48 (by simp [Lit.wf, IntKind.min, IntKind.max, IntKind.signed, IntKind.bits]; omega)
          have hown1 := map_below hown hb1
          have hB1 := bnext hbel hb1
          clear hb1 hown hbel
          cases hh : Maps.has D (.int .u32 (Dl.keyN (text.data.toList.drop i) : Int))
          · have HX : Hid (base = text → False) := by
              intro e
              subst e
              rcases HO.out.2 rfl with ⟨h0, _, _⟩ | ⟨h0, _, _⟩
              · subst h0
                have := (HM.out.2.2 (by omega)).1
                rw [List.drop_zero, this] at hh
                cases hh
              · omega
            go_wp2_with (first
              | (at_lookup; refine wpList_lookup_own_ok_int _ rfl _ _ 131 rfl 48 3 .i64 law48 Try.underlying131 Try.underlying3 (zero3 _) w.heap.size k D rfl hown1 _ _ rfl hkey ?_; intro c hat hwc)
              | fail)
            go_roundw
            case rel => exact ⟨o, fr, i + 1, rfl, rfl, by go_num, by omega, by omega, hos, hown1, hB1, HO.out.1, fun e => absurd e HX.out⟩
            case measure => simp [intOf]; omega
          · have HH := Lib.hid hh
            go_wp2_with (first
              | (at_lookup; refine wpList_lookup_own_ok_int _ rfl _ _ 131 rfl 48 3 .i64 law48 Try.underlying131 Try.underlying3 (zero3 _) w.heap.size k D rfl hown1 _ _ rfl hkey ?_; intro c hat hwc; obtain ⟨j, hcj, hj4, hjk⟩ := mp_at HM.out hh hat; rw [hbl] at hj4; subst hcj; have hj0 : (0 : Int) ≤ (j : Int) := (by omega); have hjb : (j : Int) ≤ (base.size : Int) := (by omega); have HJ := Lib.hid hjk; clear hjk; have hat' := Lib.hid hat; clear hat)
              | fail)
            have hzb : (base.extract j base.size).size = base.size - j := by rw [ByteArray.size_extract]; omega
            go_region_with (go_at_call 82; refine (alike_any (base.extract j base.size) (text.extract i text.size) (by rw [hzb]; omega) (by rw [hzt]; omega) _).mono ?_; rintro e w2 ⟨n, rfl, hn1, hn2, HN, hb2⟩)
            all_goals
              rw [hzb] at hn1
              rw [hzt] at hn2
              have HN' : Hid (((base.extract j base.size).data.toList.take n = (text.extract i text.size).data.toList.take n) ∧ 1 ≤ n) := ⟨HN.out.1, by
                refine alike_one (ext_data base j) (ext_data text i) HN.out ?_ ?_ ?_
                · simp; omega
                · simp; omega
                · have := HJ.out; omega⟩
              have hn0 := HN'.out.2
              have HC : Hid ((base.data.toList.drop j).take n = (text.data.toList.drop i).take n) := by
                have := HN'.out.1
                rw [ext_data, ext_data] at this
                exact this
              have HOwn : Hid (base = text → i = 0 ∧ fr = 0 ∧ o.size = 0 ∧ n = text.size) := by
                intro e
                rcases HO.out.2 e with ⟨e1, e2, e3⟩ | ⟨e1, _, _⟩
                · refine ⟨e1, e2, e3, ?_⟩
                  subst e1
                  subst e
                  rw [List.drop_zero] at hat'
                  have hj := mp_at0 HM.out (by omega) hat'.out
                  have hj' : j = 0 := by omega
                  subst hj'
                  have := alike_all rfl HN.out (by rw [hzt]; exact hn2)
                  rw [hzt] at this
                  omega
                · omega
              have hB2 := bnext hB1.drew hb2
              have hown2 := map_below (w := w1.drew) hown1 hb2
              clear hB1 hb2 hown1 hat' HJ HN HN' hkey hh
              have hzp : (text.extract fr i).size = i - fr := by rw [ByteArray.size_extract]; omega
              have HP : Hid ((text.extract fr i).data.toList = (text.data.toList.drop fr).take (i - fr)) := ext_mid text fr i
              have hPl : (text.extract fr i).data.toList.length = i - fr := by simp; omega
              go_wp2_with fail
              refine (plain_any (text.extract fr i) (by rw [hzp]; omega) _).mono ?_
              rintro e w3 ⟨rfl, hb3⟩
              have hB3 := bnext hB2 hb3
              have hown3 := map_below hown2 hb3
              clear hB2 hb3 hown2
              generalize (text.extract fr i).data.toList = P at *
              have hpl := Dl.plain_le P
              have hpu1 := Vi.put_le (2 * n + 1)
              have hpu2 := Vi.put_le j
              have hOk := Dl.ok_app HO.out.1 (Dl.ok_app (Dl.ok_plain base.data.toList P (by omega)) (Dl.ok_copy base.data.toList j n hn0 (by rw [hbl]; omega) (by rw [hbl]; omega)))
              have HOk := Lib.hid hOk
              have HPn : Hid (P = [] → Dl.plainN P = []) := fun e => by rw [e]; rfl
              clear hOk
              go_wp2_with fail
              refine (put_any (2 * n + 1) (by omega) _).mono ?_
              rintro e w4 ⟨rfl, hb4⟩
              have hB4 := bnext hB3 hb4
              have hown4 := map_below hown3 hb4
              clear hB3 hb4 hown3
              generalize Dl.plainN P = Q1 at *
              generalize Vi.put (2 * n + 1) = Q2 at *
              have hlimA : (9223372036854775807 < Q1.length + Q2.length) = False := by simp; omega
              go_wp2_with fail
              refine (put_any j (by omega) _).mono ?_
              rintro e w5 ⟨rfl, hb5⟩
              have hB5 := bnext hB4 hb5
              have hown5 := map_below hown4 hb5
              clear hB4 hb5 hown4
              generalize Vi.put j = Q3 at *
              have hlimB : (9223372036854775807 < Q1.length + Q2.length + Q3.length) = False := by simp; omega
              have hlimC : (9223372036854775807 < o.size + (Q1.length + Q2.length + Q3.length)) = False := by simp; omega
              go_wp2
              go_roundw
              case rel =>
                refine ⟨_, i + n, i + n, rfl, by go_num, by go_num, Nat.le_refl _, by omega, ?_, hown5, hB5, ?_, ?_⟩
                · simp only [ByteArray.size_append, size_mk]; omega
                · have e := HOk.out
                  rw [HP.out, HC.out, split3 _ _ _ _ hfi] at e
                  have e2 : ∀ X Y Z : List UInt8, (o ++ ((⟨X.toArray⟩ : ByteArray) ++ ⟨Y.toArray⟩ ++ ⟨Z.toArray⟩)).data.toList = o.data.toList ++ (X ++ (Y ++ Z)) := by
                    intro X Y Z
                    rw [cat_data, cat_data, cat_data, List.append_assoc]
                  rw [e2]
                  exact e
                · intro e
                  obtain ⟨e1, e2, e3, e4⟩ := HOwn.out e
                  refine .inr ⟨by omega, by omega, ?_⟩
                  have hP0 : P = [] := List.eq_nil_of_length_eq_zero (by omega)
                  have hQ := HPn.out hP0
                  have hQ1 : Q1.length = 0 := by rw [hQ]; rfl
                  simp only [ByteArray.size_append, size_mk]; omega
              case measure => simp [intOf]; omega
        · have hzp : (text.extract fr text.size).size = text.size - fr := by rw [ByteArray.size_extract]; omega
          go_wp2_with fail
          refine (plain_any (text.extract fr text.size) (by rw [hzp]; omega) _).mono ?_
          rintro e w3 ⟨rfl, hb3⟩
          rw [ext_data]
          have hB3 := bnext hbel hb3
          have hpl := Dl.plain_le (text.data.toList.drop fr)
          have hdl : (text.data.toList.drop fr).length = text.size - fr := by simp
          rw [hdl] at hpl
          have HOk : Hid (Dl.Ok base.data.toList text.data.toList (o.data.toList ++ Dl.plainN (text.data.toList.drop fr))) := by
            have := Dl.ok_app HO.out.1 (Dl.ok_plain base.data.toList (text.data.toList.drop fr) (by rw [hdl]; omega))
            rw [List.take_append_drop] at this
            exact this
          have HOwn : Hid (base = text → o.size + (Dl.plainN (text.data.toList.drop fr)).length ≤ 20) := by
            intro e
            rcases HO.out.2 e with ⟨e1, e2, e3⟩ | ⟨e1, e2, e3⟩
            · omega
            · have : text.data.toList.drop fr = [] := List.eq_nil_of_length_eq_zero (by rw [hdl]; omega)
              rw [this]
              exact e3
          clear hbel hb3 hown
          have hol : o.data.toList.length = o.size := by simp
          have hlimA : (9223372036854775807 < o.size + (Dl.plainN (text.data.toList.drop fr)).length) = False := by simp; omega
          go_wp2
          go_ret
          refine ⟨o.data.toList ++ Dl.plainN (text.data.toList.drop fr), ret_bytes (by rw [cat_data]), HOk, ?_, ?_, hB3⟩
          · rw [List.length_append, hol]; omega
          · intro e
            rw [List.length_append, hol]
            exact HOwn.out e
end Go.Proofs.Ytominjooffecnaa.WDl
