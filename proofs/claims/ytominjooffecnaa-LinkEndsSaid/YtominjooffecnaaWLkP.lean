/- Parts: a message's parts, by the document (layer 24). -/
import Derived.Test.YtominjooffecnaaWLkS
namespace Go.Proofs.Ytominjooffecnaa.WLk
open Go.RowKit Kn

theorem info122 : (Try.prog.info? 122).map (fun i => (i.zero, i.size, i.bytes)) = some (some (.agg #[.string ⟨#[]⟩, .bool false]), 2, 24) := by kernel_rfl

/-- a row of one part, just made -/
theorem sl_new2 {w : World} {ρ : Nat → Nat} {g : Nat} {a b : Value} {t : TypeId} (h : w.heap[g]? = some (.cells #[a, b] t (0, 0))) (hρ : ρ g = 0) : Sl w ρ 0 2 (.slice (some ⟨g, 0, none⟩) 1 1) 1 [a, b] := by
  refine ⟨rfl, .inr ⟨g, 0, 1, rfl, hρ, Nat.le_refl _, by unfold maxLen; omega, lt_of_block h, fun j u hu => ?_, fun j hj => ?_⟩⟩
  · rw [Nat.zero_add, cell_of_row _ _ j _ _ _ h]
    simpa using hu
  · rw [Nat.zero_add, cell_of_row _ _ j _ _ _ h]
    refine ⟨by simp; omega, by simp [World.frozen?, h]⟩

/-- a slice that reads as parts -/
def Pts (w : World) (v : Value) (L : List Lk.Part) : Prop :=
  ∃ ad c, v = .slice (some ad) L.length c ∧ ∀ j u, (ptsV L)[j]? = some u → w.cell? (ad.add j) = some u

theorem pts_sl {w : World} {ρ : Nat → Nat} {τ n : Nat} {v : Value} {L : List Lk.Part} (h : Sl w ρ τ 2 v n (ptsV L)) (hn : n = L.length) (h0 : 0 < n) : Pts w v L := by
  subst hn
  rcases h.2 with ⟨_, e⟩ | ⟨g, off, cap, hv, _, _, _, _, hc, _⟩
  · omega
  · exact ⟨_, cap, hv, fun j u hu => by rw [Addr.add_lit]; exact hc j u hu⟩

theorem pts_alloc {w : World} {ad : Addr} {l : List Value} (h : ∀ j u, l[j]? = some u → w.cell? (ad.add j) = some u) (o : Obj) : ∀ j u, l[j]? = some u → (w.alloc o).cell? (ad.add j) = some u := fun j u hu => by
  have hc := h j u hu
  rw [World.cell?_alloc_lt _ _ _ (World.block_lt_of_cell? w _ hc)]
  exact hc
theorem ptsV_one' (L : List Lk.Part) : ∀ u ∈ ptsV L, u.oneCell' = true := by
  intro u hu
  rw [ptsV, List.mem_flatMap] at hu
  obtain ⟨p, _, h⟩ := hu
  simp at h
  rcases h with rfl | rfl <;> rfl

set_option maxRecDepth 100000 in
set_option maxHeartbeats 4000000 in
theorem parts_any : ∀ (n : Nat) (m : ByteArray), m.size ≤ n → m.size ≤ 700 → ∀ w : World,
    Calls Try.prog 59 #[.string m] w fun e w' => ∃ v, e = .returned v ∧ Pts w' v (Lk.parts m.data.toList) ∧ Below w.heap.size w w' := by
  obtain ⟨i122, hi, hz, hs2, hb⟩ := info_parts info122
  intro n
  induction n with
  | zero =>
    intro m hmn hm7 w
    have h200 : m.size ≤ 200 := by omega
    have HP : Hid (Lk.parts m.data.toList = [⟨m.data.toList, true⟩]) := Lk.parts_short (by simpa using h200)
    go_enter Try.func59, Try.ntmps59
    go_wp2
    go_ret
    refine ⟨_, rfl, ?_, balloc (Below.refl _ _) _⟩
    rw [HP.out]
    refine ⟨_, 1, rfl, ?_⟩
    rw [ptsV_one]
    exact news2 rfl
  | succ n ih =>
    intro m hmn hm7 w
    by_cases h200 : m.size ≤ 200
    · have HP : Hid (Lk.parts m.data.toList = [⟨m.data.toList, true⟩]) := Lk.parts_short (by simpa using h200)
      go_enter Try.func59, Try.ntmps59
      go_wp2
      go_ret
      refine ⟨_, rfl, ?_, balloc (Below.refl _ _) _⟩
      rw [HP.out]
      refine ⟨_, 1, rfl, ?_⟩
      rw [ptsV_one]
      exact news2 rfl
    · have h200' : 200 < m.size := by omega
      have h0 : (200 : Int) ≤ (m.size : Int) := by omega
      have hz2 : (m.extract 200 m.size).size = m.size - 200 := by rw [ByteArray.size_extract]; omega
      have hrl := Lk.parts_len (m.extract 200 m.size).data.toList
      have hrl2 : (m.extract 200 m.size).data.toList.length ≤ 500 := by
        have : (m.extract 200 m.size).data.toList.length = (m.extract 200 m.size).size := by simp
        omega
      have HP : Hid (Lk.parts m.data.toList = ⟨(m.extract 0 200).data.toList, false⟩ :: Lk.parts (m.extract 200 m.size).data.toList) := by
        show _ = _
        rw [Lk.parts_long (by simpa using h200'), Lib.extract_data, Lib.extract_data]
        simp only [List.drop_zero, Nat.sub_zero]
        rw [List.take_of_length_le (l := List.drop 200 _) (by simp)]
      have HC := Lib.hid (ih (m.extract 200 m.size) (by omega) (by omega))
      obtain ⟨M, HM⟩ : ∃ M, Hid (M = (Lk.parts (m.extract 200 m.size).data.toList).length) := ⟨_, rfl⟩
      have hMb : M ≤ 10 := by rw [HM.out]; omega
      clear ih h200 hrl hrl2
      go_enter Try.func59, Try.ntmps59
      go_wp2
      go_region_law (first
        | (refine step_append_sl (ρ := xt (fun _ => 100) w.heap.size 0) (τ := 0) rfl (.tmp 12) (.tmp 15) 98 rfl 122 i122 _ 24 Try.underlying98 hi hz hs2 hb rfl (by decide) (by first | exact sl_new2 ((HB1.out.block w.heap.size (by simp)).trans (heap_alloc_new w _)) (xt_new (Nat.le_refl _)) | exact sl_new2 (heap_alloc_new w1 _) (xt_new HB1.out.size)) (by simp [Act.eval]) ad M c (ptsV (Lk.parts (m.extract 200 m.size).data.toList)) (by simp [Act.eval]) (by rw [ptsV_length, ← HM.out]) (by first | exact HPT.out | exact pts_alloc HPT.out _) (ptsV_one' _) (by unfold maxLen; omega) (by omega) ?_; intro v' w2 hsl' hfr'; obtain ⟨A', cap', hv', _, _⟩ := hsl'.form; subst hv'; have HSL := Lib.hid hsl'; have HFR := Lib.hid hfr'; clear hsl' hfr')
        | (refine step_call rfl 59 #[.string (m.extract 200 m.size)] (by go_simp) (HC.out _) ?_; rintro en w1 ⟨v, rfl, ⟨ad, c, rfl, hpt⟩, hb1⟩; refine ⟨_, rfl, ?_⟩; rw [← HM.out]; have HPT := Lib.hid hpt; have HB1 := Lib.hid hb1; clear hpt hb1))
      all_goals
        go_wp2
        go_ret
        refine ⟨_, rfl, ?_, ?_⟩
        · rw [HP.out]
          have e1 : ptsV (⟨(m.extract 0 200).data.toList, false⟩ :: Lk.parts (m.extract 200 m.size).data.toList) = [.string (m.extract 0 200), .bool false] ++ ptsV (Lk.parts (m.extract 200 m.size).data.toList) := by
            rw [← List.singleton_append, ptsV_append, ptsV_one]
          refine pts_sl (by rw [e1]; exact HSL.out) ?_ (by omega)
          rw [List.length_cons, ← HM.out]; omega
        · first
            | (have hB := bnext (balloc (Below.refl _ w) _).drew HB1.out; exact Fr.below hB HFR.out hB.size (fun k hk => by rw [xt_old hk]; decide))
            | (have hB := balloc (bnext (Below.refl _ w).drew HB1.out) (.cells #[.string (m.extract 0 200), .bool false] 122); exact Fr.below hB HFR.out hB.size (fun k hk => by rw [xt_old hk]; decide))
end Go.Proofs.Ytominjooffecnaa.WLk
