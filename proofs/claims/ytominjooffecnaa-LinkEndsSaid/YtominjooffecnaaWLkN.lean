/- The memory of the net of two ends (layer 24). -/
import Derived.Test.YtominjooffecnaaWLkM
import Derived.Deep.RegionHeldLaw
namespace Go.Proofs.Ytominjooffecnaa.WLk
open Go.RowKit Kn

abbrev Txts := List (List UInt8)

theorem EndW.keep {w w' : World} {ρ ρ' : Nat → Nat} {τ c eb : Nat} {A B : Lk.E} (h : EndW w ρ τ c eb A B) (hb : ∀ k, k < w.heap.size → ρ k = τ ∨ k = eb → w'.heap[k]? = w.heap[k]?) (hs : w.heap.size ≤ w'.heap.size) (hx : Xt ρ ρ' w.heap.size) : EndW w' ρ' τ c eb A B := by
  obtain ⟨pv, hrow, hsl⟩ := h
  exact ⟨pv, (hb eb (lt_of_block hrow) (.inr rfl)).trans hrow, hsl.keep (fun k hk e => hb k hk (.inl e)) hs hx⟩

def upd {α : Type} (f : Nat → α) (k : Nat) (v : α) : Nat → α := fun j => if j = k then v else f j
theorem upd_same {α : Type} (f : Nat → α) (k : Nat) (v : α) : upd f k v k = v := if_pos rfl
theorem upd_other {α : Type} (f : Nat → α) {k j : Nat} (v : α) (h : j ≠ k) : upd f k v j = f j := if_neg h
def upd2 {α : Type} (f : Nat → Nat → α) (i k : Nat) (v : α) : Nat → Nat → α := fun a b => if a = i ∧ b = k then v else f a b
theorem upd2_same {α : Type} (f : Nat → Nat → α) (i k : Nat) (v : α) : upd2 f i k v i k = v := if_pos ⟨rfl, rfl⟩
theorem upd2_other {α : Type} (f : Nat → Nat → α) {i k a b : Nat} (v : α) (h : ¬ (a = i ∧ b = k)) : upd2 f i k v a b = f a b := if_neg h

/-- the net's memory: tags: 0 the net, 1 + k an end, 3 + k its parts, 5 + k what is on the way to it, 7 + k what it sent, 9 + k what it was told -/
structure Mem (w : World) (ρ : Nat → Nat) (nb : Nat) (e : Nat → Nat) (C : Nat → Value) (st : Nat → Lk.E) (L : Nat → Nat → Txts) : Prop where
  tag : ρ nb = 0
  lt : nb < w.heap.size
  cell : ∀ j, j < 9 → w.cell? ⟨nb, j, none⟩ = some (C j) ∧ w.frozen? ⟨nb, j, none⟩ = false
  ptr : ∀ k, k < 2 → C k = .pointer (some ⟨e k, 0, none⟩) ∧ ρ (e k) = 1 + k
  ends : ∀ k, k < 2 → EndW w ρ (3 + k) 3 (e k) (st k) (st (1 - k))
  slot : ∀ i k, i < 3 → k < 2 → Sl w ρ (5 + 2 * i + k) 1 (C (2 + 2 * i + k)) (L i k).length (strsV (L i k))

section
variable {w w' : World} {ρ ρ' : Nat → Nat} {nb : Nat} {e : Nat → Nat} {C : Nat → Value} {st : Nat → Lk.E} {L : Nat → Nat → Txts}

theorem Mem.below (h : Mem w ρ nb e C st L) (hb : Below w.heap.size w w') (hx : Xt ρ ρ' w.heap.size) : Mem w' ρ' nb e C st L where
  tag := (hx nb h.lt).trans h.tag
  lt := Nat.lt_of_lt_of_le h.lt hb.size
  cell := fun j hj => by
    have hh := hb.block nb h.lt
    rw [World.cell?_of_block (a := ⟨nb, j, none⟩) hh, World.frozen?_of_block (a := ⟨nb, j, none⟩) hh]
    exact h.cell j hj
  ptr := fun k hk => ⟨(h.ptr k hk).1, by
    obtain ⟨pv, hrow, _⟩ := h.ends k hk
    rw [hx _ (lt_of_block hrow)]; exact (h.ptr k hk).2⟩
  ends := fun k hk => (h.ends k hk).keep (fun i hi _ => hb.block i hi) hb.size hx
  slot := fun i k hi hk => (h.slot i k hi hk).keep (fun j hj _ => hb.block j hj) hb.size hx

/-- an end turns -/
theorem Mem.turn (h : Mem w ρ nb e C st L) (k : Nat) (hk : k < 2) (hf : Fr (fun t => t = 3 + k ∨ t = 1 + k) ρ w w') (hx : Xt ρ ρ' w.heap.size) {A : Lk.E} (hA : EndW w' ρ' (3 + k) 3 (e k) A (st (1 - k)))
    (hp : Lk.pend (st (1 - k)) A = Lk.pend (st (1 - k)) (st k)) : Mem w' ρ' nb e C (upd st k A) L where
  tag := (hx nb h.lt).trans h.tag
  lt := Nat.lt_of_lt_of_le h.lt hf.size
  cell := fun j hj => by
    have hh := hf.block nb h.lt (by rw [h.tag]; omega)
    rw [World.cell?_of_block (a := ⟨nb, j, none⟩) hh, World.frozen?_of_block (a := ⟨nb, j, none⟩) hh]
    exact h.cell j hj
  ptr := fun i hi => ⟨(h.ptr i hi).1, by
    obtain ⟨pv, hrow, _⟩ := h.ends i hi
    rw [hx _ (lt_of_block hrow)]; exact (h.ptr i hi).2⟩
  ends := fun i hi => by
    by_cases hik : i = k
    · subst hik
      rw [upd_same, upd_other _ _ (by omega)]
      exact hA
    · have hik' : 1 - i = k := by omega
      have hki : 1 - k = i := by omega
      rw [upd_other _ _ hik, hik', upd_same]
      rw [hki] at hp
      have he := h.ends i hi
      rw [hik'] at he
      have he2 : EndW w ρ (3 + i) 3 (e i) (st i) A := by
        obtain ⟨pv, hrow, hsl⟩ := he
        exact ⟨pv, by rw [hp]; exact hrow, hsl⟩
      refine he2.keep (fun j hj hjj => hf.block j hj ?_) hf.size hx
      rcases hjj with h1 | h1
      · rw [h1]; omega
      · rw [h1, (h.ptr i hi).2]; omega
  slot := fun i j hi hj => (h.slot i j hi hj).fr hf (by omega) hx

/-- a slice of texts turns, and is stored -/
theorem Mem.store (h : Mem w ρ nb e C st L) (i k : Nat) (hi : i < 3) (hk : k < 2) (hf : Fr (fun t => t = 5 + 2 * i + k) ρ w w') (hx : Xt ρ ρ' w.heap.size) {v : Value} {M : Txts} (hM : Sl w' ρ' (5 + 2 * i + k) 1 v M.length (strsV M)) :
    Mem (w'.setCell ⟨nb, 2 + 2 * i + k, none⟩ v) ρ' nb e (upd C (2 + 2 * i + k) v) st (upd2 L i k M) := by
  have hnl : nb < w'.heap.size := Nat.lt_of_lt_of_le h.lt hf.size
  have ht : ρ' nb = 0 := (hx nb h.lt).trans h.tag
  have hset : ∀ j, j < w'.heap.size → ρ' j ≠ 0 → (w'.setCell ⟨nb, 2 + 2 * i + k, none⟩ v).heap[j]? = w'.heap[j]? := fun j _ hj => Below.heap_setCell _ _ _ _ (fun e2 => hj (by rw [e2]; exact ht))
  have hcell : ∀ j, j < 9 → w'.cell? ⟨nb, j, none⟩ = some (C j) ∧ w'.frozen? ⟨nb, j, none⟩ = false := fun j hj => by
    have hh := hf.block nb h.lt (by rw [h.tag]; omega)
    rw [World.cell?_of_block (a := ⟨nb, j, none⟩) hh, World.frozen?_of_block (a := ⟨nb, j, none⟩) hh]
    exact h.cell j hj
  refine ⟨ht, by simpa using hnl, fun j hj => ?_, fun j hj => ?_, fun j hj => ?_, fun a b ha hb => ?_⟩
  · refine ⟨?_, by rw [World.frozen?_setCell]; exact (hcell j hj).2⟩
    by_cases e1 : j = 2 + 2 * i + k
    · subst e1
      rw [upd_same]
      exact World.cell?_setCell_same' _ _ _ (by rw [(hcell _ hj).1]; rfl)
    · rw [upd_other _ _ e1, World.cell?_setCell_other _ _ _ _ (by intro e2; injection e2 with _ e3; exact e1 e3.symm)]
      exact (hcell j hj).1
  · rw [upd_other _ _ (by omega)]
    refine ⟨(h.ptr j hj).1, ?_⟩
    obtain ⟨pv, hrow, _⟩ := h.ends j hj
    rw [hx _ (lt_of_block hrow)]; exact (h.ptr j hj).2
  · have h1 : EndW w' ρ' (3 + j) 3 (e j) (st j) (st (1 - j)) := (h.ends j hj).keep (fun a ha haa => hf.block a ha (by
      rcases haa with h1 | h1
      · rw [h1]; omega
      · rw [h1, (h.ptr j hj).2]; omega)) hf.size hx
    have hej : ρ' (e j) = 1 + j := by
      obtain ⟨pv, hrow, _⟩ := h.ends j hj
      rw [hx _ (lt_of_block hrow)]; exact (h.ptr j hj).2
    refine h1.keep (fun a ha haa => hset a ha ?_) (by simp) (Xt.refl _ _)
    rcases haa with h2 | h2
    · rw [h2]; omega
    · rw [h2, hej]; omega
  · by_cases hab : a = i ∧ b = k
    · obtain ⟨rfl, rfl⟩ := hab
      rw [upd_same, upd2_same]
      exact hM.keep (fun j hj hjj => hset j hj (by rw [hjj]; omega)) (by simp) (Xt.refl _ _)
    · rw [upd_other _ _ (by omega), upd2_other _ _ hab]
      have h1 : Sl w' ρ' (5 + 2 * a + b) 1 (C (2 + 2 * a + b)) (L a b).length (strsV (L a b)) := (h.slot a b ha hb).fr hf (by omega) hx
      exact h1.keep (fun j hj hjj => hset j hj (by rw [hjj]; omega)) (by simp) (Xt.refl _ _)
end

theorem info9 : (Try.prog.info? 9).map (fun i => (i.zero, i.size, i.bytes)) = some (some (.string ⟨#[]⟩), 1, 16) := by kernel_rfl
theorem news1d {W : World} {a : Value} {t : TypeId} {N : Nat} (h : W.heap.size = N) : ∀ j u, [a][j]? = some u → (W.alloc (.cells #[a] t)).drew.cell? ((⟨N, 0, none⟩ : Addr).add j) = some u := by
  subst h
  intro j u hu
  have e1 : (⟨W.heap.size, 0, none⟩ : Addr).add j = ⟨W.heap.size, j, none⟩ := by unfold Addr.add; split <;> simp_all
  rw [e1]
  show (W.alloc (.cells #[a] t)).cell? ⟨W.heap.size, j, none⟩ = some u
  rw [cell_of_row _ _ j _ t (0, 0) (heap_alloc_new W _)]
  simpa using hu
theorem one1 (s : ByteArray) : ∀ u ∈ [Value.string s], u.oneCell' = true := by
  intro u hu
  simp at hu
  subst hu
  rfl

theorem s_cases {k : Nat} (h : k < 2) : k = 0 ∨ k = 1 := by omega

set_option maxRecDepth 100000 in
set_option maxHeartbeats 4000000 in
theorem step_send (nb : Nat) (e : Nat → Nat) (C : Nat → Value) (st : Nat → Lk.E) (L : Nat → Nat → Txts) (ρ : Nat → Nat) (what to at_ byte by_ : Nat) (text : ByteArray) (w : World) (hn : Mem w ρ nb e C st L) (hi : ∀ k, k < 2 → Lk.Inv (st k) (st (1 - k)))
    (hwhat : what < 256) (hto : to < 256) (hw : what % 6 = 0) (htx : text.size ≤ 700) (hsz : ∀ k, k < 2 → (L 1 k).length ≤ 80 ∧ (st k).all.length ≤ 1000) (k : Nat) (hk : to % 2 = k) :
    Calls Try.prog 57 #[.pointer (some ⟨nb, 0, none⟩), .agg #[.int .u8 what, .int .u8 to, .string text, .int .u8 at_, .int .u8 byte, .int .u8 by_]] w fun en w' => en = .returned (.tuple #[]) ∧ ∃ ρ' C',
      Mem w' ρ' nb e C' (upd st k (Lk.send (st k) text.data.toList)) (upd2 L 1 k (L 1 k ++ [text.data.toList])) ∧ C' 8 = C 8 ∧ Xt ρ ρ' w.heap.size ∧ Fr (· < 11) ρ w w' := by
  obtain ⟨i9, hi9, hz9, hs9, hb9⟩ := info_parts info9
  have hk2 : k < 2 := by omega
  have hwi : (what : Int) % 6 = 0 := by omega
  have hti : (to : Int) % 2 = (k : Int) := by omega
  have hk0 : (0 : Int) ≤ (k : Int) := by omega
  have hk1 : (k : Int) < 2 := by omega
  have hHM : Hid (Mem w ρ nb e C st L) := hn
  have c0 : w.cell? ⟨nb, k, none⟩ = some (.pointer (some ⟨e k, 0, none⟩)) := by rw [← (hn.ptr k hk2).1]; exact (hn.cell k (by omega)).1
  have hnlt := hn.lt
  clear hk hw
  go_enter Try.func57, Try.ntmps57
  go_wp2
  obtain ⟨pv, hrow, hsl⟩ := hn.ends k hk2
  have hel := lt_of_block hrow
  have hdl : ((st k).all.drop (st k).done).length ≤ 100000 := by have := (hsz k hk2).2; simp; omega
  have HE := Lib.hid (And.intro hrow hsl)
  clear hrow hsl hn
  go_region_with (go_at_call 73; refine (send_any text (by omega) (e k) _ pv _ _ _ _ hdl (xt ρ w.heap.size 99) (3 + k) (by rw [xt_old hel, (hHM.out.ptr k hk2).2]; omega) _ (by exact (heap_alloc_old _ _ hel).trans HE.out.1) (by exact Sl.drew (Sl.alloc (HE.out.2.keep (fun _ _ _ => rfl) (Nat.le_refl _) (Xt.xt _ _ _)) _))).mono ?_; rintro en w1 ⟨pv', ρ1, rfl, hrow1, hsl1, hx1, hf1⟩)
  all_goals
    have hMW : Mem (w.alloc (.cells #[.int .u8 what, .int .u8 to, .string text, .int .u8 at_, .int .u8 byte, .int .u8 by_] 96)).drew (xt ρ w.heap.size 99) nb e C st L := hHM.out.below (balloc (Below.refl _ _) _).drew (Xt.xt _ _ _)
    have hek : xt ρ w.heap.size 99 (e k) = 1 + k := by rw [xt_old hel]; exact (hHM.out.ptr k hk2).2
    rw [hek] at hf1
    have hinv := hi k hk2
    have hpend := (Lk.told_send hinv text.data.toList).2
    have hM1 : Mem w1 ρ1 nb e C (upd st k (Lk.send (st k) text.data.toList)) L := by
      refine hMW.turn k hk2 hf1 hx1 ⟨pv', hrow1, ?_⟩ hpend
      have e1 : (Lk.send (st k) text.data.toList).all.drop (Lk.send (st k) text.data.toList).done = (st k).all.drop (st k).done ++ Lk.parts text.data.toList := by
        rw [Lk.send_all]
        show ((st k).all ++ _).drop (st k).done = _
        rw [List.drop_append_of_le_length (by have := hinv.a1; have := hinv.a3; omega)]
      rw [e1]
      exact hsl1
    have hbox : w1.heap[w.heap.size]? = some (.cells #[.int .u8 what, .int .u8 to, .string text, .int .u8 at_, .int .u8 byte, .int .u8 by_] 96 (0, 0)) := by
      rw [hf1.block w.heap.size (by show w.heap.size < (w.alloc _).heap.size; simp) (by rw [xt_new (Nat.le_refl _)]; omega)]
      exact heap_alloc_new w _
    have b2 : w1.cell? ⟨w.heap.size, 2, none⟩ = some (.string text) := by rw [cell_of_row _ _ 2 _ _ _ hbox]; rfl
    have hS := hM1.slot 1 k (by decide) hk2
    obtain ⟨A, cap, hCs, _, _⟩ := hS.form
    have c4 : w1.cell? ⟨nb, 4 + k, none⟩ = some (.slice A (L 1 k).length cap) := by
      rw [← hCs]; exact (hM1.cell (4 + k) (by omega)).1
    have f4 : w1.frozen? ⟨nb, 4 + k, none⟩ = false := (hM1.cell (4 + k) (by omega)).2
    have HF1 : Hid (Fr (· < 11) ρ w w1 ∧ Xt ρ ρ1 w.heap.size) := by
      have h1 : Fr (· < 11) ρ w (w.alloc (.cells #[.int .u8 what, .int .u8 to, .string text, .int .u8 at_, .int .u8 byte, .int .u8 by_] 96)).drew := ((Fr.refl _ _ _).alloc _).drew
      have h2 : w.heap.size ≤ (w.alloc (.cells #[.int .u8 what, .int .u8 to, .string text, .int .u8 at_, .int .u8 byte, .int .u8 by_] 96)).drew.heap.size := by show w.heap.size ≤ (w.alloc _).heap.size; simp
      exact ⟨h1.trans (hf1.mono (fun t ht => by rcases ht with h | h <;> omega)) (Xt.xt _ _ _), (Xt.xt _ _ _).trans hx1 h2⟩
    have HM1 := Lib.hid hM1
    have HSl := Lib.hid hS
    have hnb1 := hM1.lt
    have hnbne : w1.heap.size ≠ nb := by omega
    have hsz1 := (hsz k hk2).1
    have hCs2 := Lib.hid hCs
    rw [hCs] at hS
    clear hMW hM1 hbox hrow1 hsl1 hx1 hf1 hpend hinv hCs
    generalize hN : (L 1 k).length = N at *
    have HN := Lib.hid hN
    clear hN
    go_wp2
    go_region_law (refine step_append_sl rfl (.tmp 119) (.tmp 122) 90 rfl 9 i9 _ 16 Try.underlying90 hi9 hz9 hs9 hb9 rfl (by decide) (Sl.drew (Sl.alloc hS _)) (by simp [Act.eval]) ⟨w1.heap.size, 0, none⟩ 1 1 [.string text] (by simp [Act.eval]) rfl (news1d rfl) (one1 _) (by unfold maxLen; omega) (by omega) ?_; intro v' w2 hsl' hfr'; have hblk := (hfr'.block nb (by show nb < (w1.alloc _).heap.size; simp; omega) (by rw [HM1.out.tag]; omega)).trans (heap_alloc_old w1 _ hnb1); have c4' : w2.cell? ⟨nb, 4 + k, none⟩ = some (.slice A N cap) := (by rw [World.cell?_of_block (a := ⟨nb, 4 + k, none⟩) hblk]; exact c4); have f4' : w2.frozen? ⟨nb, 4 + k, none⟩ = false := (by rw [World.frozen?_of_block (a := ⟨nb, 4 + k, none⟩) hblk]; exact f4); clear hblk; obtain ⟨A', cap', hv', _, _⟩ := hsl'.form; subst hv')
    all_goals
      go_wp2
      go_end0
      have hMA : Mem (w1.alloc (.cells #[.string text] 9)).drew ρ1 nb e C (upd st k (Lk.send (st k) text.data.toList)) L := HM1.out.below (balloc (Below.refl _ _) _).drew (Xt.refl _ _)
      have hsM : Sl w2 (xt ρ1 (w1.alloc (.cells #[.string text] 9)).drew.heap.size (5 + 2 * 1 + k)) (5 + 2 * 1 + k) 1 (.slice A' (N + 1) cap') (L 1 k ++ [text.data.toList]).length (strsV (L 1 k ++ [text.data.toList])) := by
        have e1 : strsV (L 1 k ++ [text.data.toList]) = strsV (L 1 k) ++ [.string text] := by
          rw [strsV, List.map_append, ← strsV]
          show _ ++ [Value.string ⟨text.data.toList.toArray⟩] = _
          rw [Lib.mk_data]
        rw [e1, List.length_append, HN.out]
        exact hsl'
      have hsz2 : w.heap.size ≤ (w1.alloc (.cells #[.string text] 9)).drew.heap.size := by have := HF1.out.1.size; show _ ≤ (w1.alloc _).heap.size; simp; omega
      refine ⟨rfl, _, _, hMA.store 1 k (by decide) hk2 hfr' (Xt.xt _ _ _) hsM, upd_other _ _ (by omega), HF1.out.2.trans (Xt.xt _ _ _) hsz2, ?_⟩
      refine Fr.setCell ?_ _ _ (fun _ => by show ρ nb < 11; rw [hHM.out.tag]; decide)
      exact (HF1.out.1.alloc _).drew.trans (hfr'.mono (fun t ht => by omega)) HF1.out.2
end Go.Proofs.Ytominjooffecnaa.WLk
