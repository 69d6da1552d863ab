/- What an end comes to by a message that it sends (layer 24). -/
import Derived.Test.YtominjooffecnaaWLkB
namespace Go.Proofs.Ytominjooffecnaa.WLk
open Go.RowKit Kn

def lenV : Value → Nat
  | .string s => s.size
  | _ => 0

theorem info124 : (Try.prog.info? 124).map (fun i => (i.zero, i.size, i.bytes)) = some (some (.agg #[.string ⟨#[]⟩, .bool false]), 2, 24) := by kernel_rfl

theorem news2 {W : World} {a b : Value} {t : TypeId} {N : Nat} (h : W.heap.size = N) : ∀ j u, [a, b][j]? = some u → (W.alloc (.cells #[a, b] t)).cell? ((⟨N, 0, none⟩ : Addr).add j) = some u := by
  subst h
  intro j u hu
  have e1 : (⟨W.heap.size, 0, none⟩ : Addr).add j = ⟨W.heap.size, j, none⟩ := by unfold Addr.add; split <;> simp_all
  rw [e1, cell_of_row _ _ j _ t (0, 0) (heap_alloc_new W _)]
  simpa using hu

theorem news2d {W : World} {a b : Value} {t : TypeId} {N : Nat} (h : W.heap.size = N) : ∀ j u, [a, b][j]? = some u → (W.alloc (.cells #[a, b] t)).drew.cell? ((⟨N, 0, none⟩ : Addr).add j) = some u := news2 h
theorem ptsV_one (s : ByteArray) (b : Bool) : ptsV [⟨s.data.toList, b⟩] = [.string s, .bool b] := by
  show [Value.string ⟨s.data.toList.toArray⟩, .bool b] = _
  rw [Lib.mk_data]
theorem one2 (s : ByteArray) (b : Bool) : ∀ u ∈ [Value.string s, .bool b], u.oneCell' = true := by
  intro u hu
  simp at hu
  rcases hu with rfl | rfl <;> rfl

theorem Sl_set {w : World} {ρ : Nat → Nat} {τ size n : Nat} {v : Value} {xs : List Value} (h : Sl w ρ τ size v n xs) {b : Nat} (hb : ρ b ≠ τ) (i : Nat) (u : Value) : Sl (w.setCell ⟨b, i, none⟩ u) ρ τ size v n xs :=
  h.keep (fun k _ hk => Below.heap_setCell _ _ _ _ (fun e => hb (by rw [← hk, e]))) (by simp) (Xt.refl _ _)

set_option maxRecDepth 100000 in
set_option maxHeartbeats 4000000 in
theorem send_any (m : ByteArray) (hm : m.size ≤ 100000) (eb : Nat) (c0 pv c2 c3 c4 : Value) (L : List Lk.Part) (hL : L.length ≤ 100000) (ρ : Nat → Nat) (τ : Nat) (hρ : ρ eb ≠ τ) (w : World)
    (hrow : w.heap[eb]? = some (.cells #[c0, pv, c2, c3, c4] 119 (0, 0))) (hsl : Sl w ρ τ 2 pv L.length (ptsV L)) :
    Calls Try.prog 73 #[.pointer (some ⟨eb, 0, none⟩), .string m] w fun e w' => ∃ pv' ρ', e = .returned (.tuple #[]) ∧ w'.heap[eb]? = some (.cells #[c0, pv', c2, c3, c4] 119 (0, 0)) ∧
      Sl w' ρ' τ 2 pv' (L ++ Lk.parts m.data.toList).length (ptsV (L ++ Lk.parts m.data.toList)) ∧ Xt ρ ρ' w.heap.size ∧ Fr (fun t => t = τ ∨ t = ρ eb) ρ w w' := by
  obtain ⟨i124, hi, hz, hs2, hb⟩ := info_parts info124
  have hlt := lt_of_block hrow
  go_enter Try.func73, Try.ntmps73
  go_wp2
  go_loopw [1] (fun a wr => ∃ (R : ByteArray) (M : List Lk.Part) (N : Nat) (pvr : Value) (ρr : Nat → Nat), a = .string R ∧ R.size ≤ m.size ∧ N + R.size ≤ 200000 ∧ Hid (N = (L ++ M).length) ∧ wr.heap[eb]? = some (.cells #[c0, pvr, c2, c3, c4] 119 (0, 0)) ∧
      Sl wr ρr τ 2 pvr N (ptsV (L ++ M)) ∧ Xt ρ ρr w.heap.size ∧ Fr (fun t => t = τ ∨ t = ρ eb) ρ w wr ∧ Hid (Lk.parts m.data.toList = M ++ Lk.parts R.data.toList)) (fun a _ => lenV a)
  case atStart => exact ⟨m, [], L.length, pv, ρ, rfl, Nat.le_refl _, by omega, (by show _ = _; simp), hrow, by rw [List.append_nil]; exact hsl, Xt.refl _ _, Fr.refl _ _ _, rfl⟩
  case round =>
    clear hrow hsl
    obtain ⟨R, M, N, pvr, ρr, rfl, hRm, hbd, HN, hrow, hsl, hxt, hfr, HE⟩ := hrel
    have hlt1 := lt_of_block hrow
    have hρr : ρr eb ≠ τ := by rw [hxt eb hlt]; exact hρ
    have c1 : wr.cell? ⟨eb, 1, none⟩ = some pvr := by rw [cell_of_row _ _ 1 _ _ _ hrow]; rfl
    have f1 : wr.frozen? ⟨eb, 1, none⟩ = false := by simp [World.frozen?, hrow]
    have HR := Lib.hid hrow
    obtain ⟨A, cap, rfl, _, _⟩ := hsl.form
    have hne1 : wr.heap.size ≠ eb := by omega
    have hne2 : eb ≠ wr.heap.size := by omega
    have HX := Lib.hid hxt
    have hxt0 : Hid (ρr eb = ρ eb) := hxt eb hlt
    have hρr' : ¬ (ρ eb = τ) := hρ
    have HF := Lib.hid hfr
    clear hrow hxt hfr
    have HE2 : Hid (R.size ≤ 200 → (L ++ Lk.parts m.data.toList).length = N + 1 ∧ ptsV (L ++ Lk.parts m.data.toList) = ptsV (L ++ M) ++ [.string R, .bool true]) := by
      intro h200
      rw [HE.out, Lk.parts_short (by simpa using h200), ← List.append_assoc, ptsV_append, HN.out, ptsV_one]
      exact ⟨by simp; omega, rfl⟩
    by_cases h200 : R.size ≤ 200
    · go_wp2_with (at_builtin; refine wpList_append_sl rfl (.tmp 27) (.tmp 30) 117 rfl 124 i124 _ 24 Try.underlying117 hi hz hs2 hb rfl (by decide) (hsl.alloc _) rfl ⟨wr.heap.size, 0, none⟩ 1 1 [.string R, .bool true] rfl rfl (news2 rfl) (one2 _ _) (by unfold maxLen; omega) (by omega) ?_; intro v' w1 hsl' hfr'; obtain ⟨A', cap', hv', _, _⟩ := hsl'.form; subst hv'; have hrow1 := (hfr'.block eb (by simp; omega) (by rw [hxt0.out]; exact hρr')).trans ((heap_alloc_old wr _ hlt1).trans HR.out); have f1' : w1.frozen? ⟨eb, 1, none⟩ = false := (by simp [World.frozen?, hrow1]); have c1' : w1.cell? ⟨eb, 1, none⟩ = some (.slice A N cap) := (by rw [cell_of_row _ _ 1 _ _ _ hrow1]; rfl); have HR1 := Lib.hid hrow1; clear hrow1)
      go_end0
      have hNN : w.heap.size ≤ (wr.alloc (.cells #[.string R, .bool true] 124)).heap.size := by have := HF.out.size; simp; omega
      refine ⟨_, xt ρr _ τ, rfl, heap_setCell_same _ eb 1 _ _ _ HR1.out, ?_, HX.out.trans (Xt.xt _ _ _) hNN, ?_⟩
      · rw [(HE2.out h200).1, (HE2.out h200).2]
        exact Sl_set hsl' (by rw [xt_old (by simp; omega)]; exact hρr) 1 _
      · exact ((HF.out.alloc _).trans (hfr'.mono fun k h => .inl h) HX.out).setCell _ _ (fun _ => .inr rfl)
    · have h200' : 200 < R.size := by omega
      have hz2 : (R.extract 200 R.size).size = R.size - 200 := by rw [ByteArray.size_extract]; omega
      have h0 : (200 : Int) ≤ (R.size : Int) := by omega
      have HE3 : Hid (Lk.parts m.data.toList = (M ++ [(⟨(R.extract 0 200).data.toList, false⟩ : Lk.Part)]) ++ Lk.parts (R.extract 200 R.size).data.toList ∧ ptsV (L ++ (M ++ [(⟨(R.extract 0 200).data.toList, false⟩ : Lk.Part)])) = ptsV (L ++ M) ++ [.string (R.extract 0 200), .bool false] ∧ N + 1 = (L ++ (M ++ [(⟨(R.extract 0 200).data.toList, false⟩ : Lk.Part)])).length) := by
        refine ⟨?_, ?_, ?_⟩
        · rw [HE.out, Lk.parts_long (by simpa using h200'), Lib.extract_data, Lib.extract_data]
          simp only [List.append_assoc, List.cons_append, List.nil_append, List.drop_zero, Nat.sub_zero]
          rw [List.take_of_length_le (l := List.drop 200 _) (by simp)]
        · rw [← List.append_assoc, ptsV_append, ptsV_one]
        · rw [HN.out]; simp; omega
      clear h200 HE2
      go_wp2
      go_region_law (refine step_append_sl rfl (.tmp 13) (.tmp 17) 117 rfl 124 i124 _ 24 Try.underlying117 hi hz hs2 hb rfl (by decide) (Sl.drew (hsl.alloc _)) (by simp [Act.eval]) ⟨wr.heap.size, 0, none⟩ 1 1 [.string (R.extract 0 200), .bool false] (by simp [Act.eval]) rfl (news2d rfl) (one2 _ _) (by unfold maxLen; omega) (by omega) ?_; intro v' w1 hsl' hfr'; obtain ⟨A', cap', hv', _, _⟩ := hsl'.form; subst hv'; have hrow1 := (hfr'.block eb (by simp; omega) (by rw [hxt0.out]; exact hρr')).trans ((heap_alloc_old wr _ hlt1).trans HR.out); have f1' : w1.frozen? ⟨eb, 1, none⟩ = false := (by simp [World.frozen?, hrow1]); have c1' : w1.cell? ⟨eb, 1, none⟩ = some (.slice A N cap) := (by rw [cell_of_row _ _ 1 _ _ _ hrow1]; rfl); have HR1 := Lib.hid hrow1; clear hrow1)
      all_goals
        go_wp2
        go_roundw
        case rel =>
          have hNN : w.heap.size ≤ (wr.alloc (.cells #[.string (R.extract 0 200), .bool false] 124)).heap.size := by have := HF.out.size; simp; omega
          refine ⟨R.extract 200 R.size, M ++ [(⟨(R.extract 0 200).data.toList, false⟩ : Lk.Part)], N + 1, _, xt ρr _ τ, rfl, by omega, by omega, HE3.out.2.2, heap_setCell_same _ eb 1 _ _ _ HR1.out, ?_, HX.out.trans (Xt.xt _ _ _) hNN, ?_, HE3.out.1⟩
          · rw [HE3.out.2.1]
            exact Sl_set hsl' (by rw [xt_old (by simp; omega)]; exact hρr) 1 _
          · exact ((HF.out.alloc _).drew.trans (hfr'.mono fun k h => .inl h) HX.out).setCell _ _ (fun _ => .inr rfl)
        case measure => simp only [lenV]; omega
end Go.Proofs.Ytominjooffecnaa.WLk
