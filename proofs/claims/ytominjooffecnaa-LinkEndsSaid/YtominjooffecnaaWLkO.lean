/- What holds of the net of two ends behind any steps (layer 24). -/
import Derived.Test.YtominjooffecnaaWLkI
import Derived.Test.YtominjooffecnaaWLkJ
import Derived.Test.YtominjooffecnaaWLkL
import Derived.Test.YtominjooffecnaaPLkR
namespace Go.Proofs.Ytominjooffecnaa.WLk
open Go.RowKit Kn

theorem bytesN_len (p : Lk.Pk) (h : p.part.text.length ≤ 200) : (bytesN 3 p).length ≤ 1000 := by
  have h1 := Vi.put_le 3
  have h2 := Vi.put_le p.n
  have h3 := Vi.put_le p.took
  have h4 : (Vi.text p.part.text).length ≤ 210 := by
    have := Vi.put_le p.part.text.length
    rw [Vi.text]; simp; omega
  rw [bytesN, Crc.seal_length, raw]
  simp
  omega

/-- the net behind n steps -/
structure Net (w : World) (ρ : Nat → Nat) (nb : Nat) (e : Nat → Nat) (C : Nat → Value) (st : Nat → Lk.E) (L : Nat → Nat → Txts) (n : Nat) : Prop where
  mem : Mem w ρ nb e C st L
  fine : C 8 = .bool true
  sent : ∀ k, k < 2 → L 1 k = (st k).sent
  told : ∀ k, k < 2 → L 2 k = Lk.told (st k) (st (1 - k))
  inv : ∀ k, k < 2 → Lk.Inv (st k) (st (1 - k))
  way : ∀ k, k < 2 → ∀ X ∈ L 0 k, ∃ p, X = bytesN 3 p ∧ Lk.Good (st k) (st (1 - k)) p
  cnt : ∀ k, k < 2 → (L 0 k).length ≤ n ∧ (st k).sent.length ≤ n ∧ (st k).all.length ≤ 5 * n

section
variable {w w' : World} {ρ ρ' : Nat → Nat} {nb n : Nat} {e : Nat → Nat} {C C' : Nat → Value} {st : Nat → Lk.E} {L : Nat → Nat → Txts}

theorem Net.more (h : Net w ρ nb e C st L n) : Net w ρ nb e C st L (n + 1) :=
  { h with cnt := fun k hk => by have := h.cnt k hk; omega }
theorem Net.below (h : Net w ρ nb e C st L n) (hb : Below w.heap.size w w') (hx : Xt ρ ρ' w.heap.size) : Net w' ρ' nb e C st L n :=
  { h with mem := h.mem.below hb hx }
theorem Net.told_le (h : Net w ρ nb e C st L n) (k : Nat) (hk : k < 2) : (L 2 k).length ≤ n := by
  rw [h.told k hk]
  exact Nat.le_trans (Lk.told_prefix _ _).length_le (h.cnt (1 - k) (by omega)).2.1
theorem Net.pre (h : Net w ρ nb e C st L n) (k : Nat) (hk : k < 2) : L 2 k <+: L 1 (1 - k) := by
  rw [h.told k hk, h.sent (1 - k) (by omega)]
  exact Lk.told_prefix _ _

theorem Net.send (h : Net w ρ nb e C st L n) (k : Nat) (hk : k < 2) (m : List UInt8) (hm : m.length ≤ 700)
    (hM : Mem w' ρ' nb e C' (upd st k (Lk.send (st k) m)) (upd2 L 1 k (L 1 k ++ [m]))) (hC : C' 8 = C 8) : Net w' ρ' nb e C' (upd st k (Lk.send (st k) m)) (upd2 L 1 k (L 1 k ++ [m])) (n + 1) := by
  have i0 := h.inv 0 (by decide)
  have i1 := h.inv 1 (by decide)
  have hp := Lk.parts_len m
  refine ⟨hM, hC.trans h.fine, fun j hj => ?_, fun j hj => ?_, fun j hj => ?_, fun j hj => ?_, fun j hj => ?_⟩
  · by_cases hjk : j = k
    · subst hjk; rw [upd2_same, upd_same, h.sent j hj]; rfl
    · rw [upd2_other _ _ (by omega), upd_other _ _ hjk, h.sent j hj]
  · rw [upd2_other _ _ (by omega), h.told j hj]
    by_cases hjk : j = k
    · subst hjk; rw [upd_same, upd_other _ _ (by omega)]; rfl
    · have : 1 - j = k := by omega
      rw [this, upd_same, upd_other _ _ hjk]
      have hi := h.inv k hk
      rw [show 1 - k = j by omega] at hi
      exact (Lk.told_send hi m).1.symm
  · by_cases hjk : j = k
    · subst hjk; rw [upd_same, upd_other _ _ (by omega)]; exact Lk.inv_send (h.inv j hj) m
    · have : 1 - j = k := by omega
      rw [this, upd_same, upd_other _ _ hjk]
      have hi := h.inv k hk
      rw [show 1 - k = j by omega] at hi
      exact (Lk.inv_send hi m).symm
  · rw [upd2_other _ _ (by omega)]
    intro X hX
    obtain ⟨p, hp1, hp2⟩ := h.way j hj X hX
    refine ⟨p, hp1, hp2.later ?_⟩
    by_cases hjk : 1 - j = k
    · rw [hjk, upd_same]; exact Lk.send_later _ _
    · rw [upd_other _ _ hjk]; exact Lk.Later.refl _
  · have hc := h.cnt j hj
    rw [upd2_other _ _ (by omega)]
    by_cases hjk : j = k
    · subst hjk
      rw [upd_same, Lk.send_all, List.length_append]
      refine ⟨by omega, ?_, by omega⟩
      show ((st j).sent ++ [m]).length ≤ n + 1
      simp; omega
    · rw [upd_other _ _ hjk]; omega

theorem Net.tick (h : Net w ρ nb e C st L n) (k j : Nat) (hk : k < 2) (hj : j = 1 - k)
    (hM : Mem w' ρ' nb e C' st (upd2 L 0 j (L 0 j ++ [bytesN 3 (Lk.tick (st k))]))) (hC : C' 8 = C 8) : Net w' ρ' nb e C' st (upd2 L 0 j (L 0 j ++ [bytesN 3 (Lk.tick (st k))])) (n + 1) := by
  refine ⟨hM, hC.trans h.fine, fun i hi => ?_, fun i hi => ?_, h.inv, fun i hi => ?_, fun i hi => ?_⟩
  · rw [upd2_other _ _ (by omega), h.sent i hi]
  · rw [upd2_other _ _ (by omega), h.told i hi]
  · by_cases hij : i = j
    · subst hij
      rw [upd2_same]
      intro X hX
      rcases List.mem_append.1 hX with hX | hX
      · exact h.way i hi X hX
      · rw [List.mem_singleton] at hX
        refine ⟨_, hX, ?_⟩
        rw [show 1 - i = k by omega]
        exact Lk.tick_good _ _
    · rw [upd2_other _ _ (by omega)]; exact h.way i hi
  · have hc := h.cnt i hi
    by_cases hij : i = j
    · subst hij
      rw [upd2_same]; simp; omega
    · rw [upd2_other _ _ (by omega)]; omega

theorem Net.recv (h : Net w ρ nb e C st L n) (k : Nat) (hk : k < 2) (p : Lk.Pk) (hg : Lk.Good (st k) (st (1 - k)) p) (o : Txts) (ho : Lk.told (Lk.got (st k) p) (st (1 - k)) = Lk.told (st k) (st (1 - k)) ++ o)
    (hM : Mem w' ρ' nb e C' (upd st k (Lk.got (st k) p)) (upd2 L 2 k (L 2 k ++ o))) (hC : C' 8 = .bool true) : Net w' ρ' nb e C' (upd st k (Lk.got (st k) p)) (upd2 L 2 k (L 2 k ++ o)) n := by
  refine ⟨hM, hC, fun j hj => ?_, fun j hj => ?_, fun j hj => ?_, fun j hj => ?_, fun j hj => ?_⟩
  · rw [upd2_other _ _ (by omega), h.sent j hj]
    by_cases hjk : j = k
    · subst hjk; rw [upd_same]; rfl
    · rw [upd_other _ _ hjk]
  · by_cases hjk : j = k
    · subst hjk; rw [upd2_same, upd_same, upd_other _ _ (by omega), ho, h.told j hj]
    · have : 1 - j = k := by omega
      rw [upd2_other _ _ (by omega), this, upd_same, upd_other _ _ hjk, h.told j hj, this]
      exact (Lk.told_other (st k) (Lk.got (st k) p) (st j) rfl).1.symm
  · by_cases hjk : j = k
    · subst hjk; rw [upd_same, upd_other _ _ (by omega)]; exact Lk.inv_got (h.inv j hj) hg
    · have : 1 - j = k := by omega
      rw [this, upd_same, upd_other _ _ hjk]
      have hi := h.inv k hk
      have e1 : 1 - k = j := by omega
      rw [e1] at hi hg
      exact (Lk.inv_got hi hg).symm
  · rw [upd2_other _ _ (by omega)]
    intro X hX
    obtain ⟨q, hp1, hp2⟩ := h.way j hj X hX
    refine ⟨q, hp1, hp2.later ?_⟩
    by_cases hjk : 1 - j = k
    · rw [hjk, upd_same]; exact Lk.got_later _ _
    · rw [upd_other _ _ hjk]; exact Lk.Later.refl _
  · have hc := h.cnt j hj
    rw [upd2_other _ _ (by omega)]
    by_cases hjk : j = k
    · subst hjk; rw [upd_same, Lk.got_all]; exact hc
    · rw [upd_other _ _ hjk]; exact hc
end

/-- parts that both have sent -/
def total (st : Nat → Lk.E) : Nat := (st 0).all.length + (st 1).all.length
theorem total_same {st st' : Nat → Lk.E} (h : ∀ k, k < 2 → (st' k).sent = (st k).sent) : total st' = total st := by
  rw [total, total, Lk.E.all, Lk.E.all, Lk.E.all, Lk.E.all, h 0 (by decide), h 1 (by decide)]
theorem total_send (st : Nat → Lk.E) (k : Nat) (hk : k < 2) (m : List UInt8) : total (upd st k (Lk.send (st k) m)) = total st + (Lk.parts m).length := by
  match k, hk with
  | 0, _ =>
    rw [total, upd_same, upd_other _ _ (by decide), Lk.send_all, List.length_append, total]; omega
  | 1, _ =>
    rw [total, upd_same, upd_other _ _ (by decide), Lk.send_all, List.length_append, total]; omega
theorem upd_sent (st : Nat → Lk.E) (k : Nat) (A : Lk.E) (h : A.sent = (st k).sent) : ∀ j, j < 2 → (upd st k A j).sent = (st j).sent := by
  intro j _
  by_cases hjk : j = k
  · subst hjk; rw [upd_same, h]
  · rw [upd_other _ _ hjk]

/-- any step -/
theorem step_any (nb : Nat) (e : Nat → Nat) (C : Nat → Value) (st : Nat → Lk.E) (L : Nat → Nat → Txts) (n : Nat) (hn : n ≤ 80) (ρ : Nat → Nat) (what to at_ byte by_ : Nat) (text : ByteArray) (w : World) (h : Net w ρ nb e C st L n)
    (hwhat : what < 256) (hto : to < 256) (hat : at_ < 256) (hbyte : byte < 256) (hby : by_ < 256) (htx : text.size ≤ 700) :
    Calls Try.prog 57 #[.pointer (some ⟨nb, 0, none⟩), .agg #[.int .u8 what, .int .u8 to, .string text, .int .u8 at_, .int .u8 byte, .int .u8 by_]] w fun en w' => en = .returned (.tuple #[]) ∧ ∃ ρ' C' st' L',
      Net w' ρ' nb e C' st' L' (n + 1) ∧ total st' = total st + (if what % 6 = 0 then (Lk.parts text.data.toList).length else 0) ∧ Xt ρ ρ' w.heap.size ∧ Fr (· < 11) ρ w w' := by
  have hcnt := h.cnt
  have htold := h.told_le
  have hinv := h.inv
  have nothing : ∀ en w', en = Ending.returned (.tuple #[]) ∧ Below w.heap.size w w' → what % 6 ≠ 0 → en = .returned (.tuple #[]) ∧ ∃ ρ' C' st' L',
      Net w' ρ' nb e C' st' L' (n + 1) ∧ total st' = total st + (if what % 6 = 0 then (Lk.parts text.data.toList).length else 0) ∧ Xt ρ ρ' w.heap.size ∧ Fr (· < 11) ρ w w' := by
    rintro en w' ⟨rfl, hb⟩ hne
    refine ⟨rfl, ρ, C, st, L, (h.below hb (Xt.refl _ _)).more, by rw [if_neg hne]; rfl, Xt.refl _ _, Fr.of_below hb⟩
  have hk2 : to % 2 < 2 := by omega
  by_cases c0 : what % 6 = 0
  · refine (step_send nb e C st L ρ what to at_ byte by_ text w h.mem hinv hwhat hto c0 htx (fun k hk => by have := hcnt k hk; rw [h.sent k hk]; omega) (to % 2) rfl).mono ?_
    rintro en w' ⟨rfl, ρ', C', hM, hC, hx, hf⟩
    exact ⟨rfl, ρ', C', _, _, h.send (to % 2) hk2 _ (by simpa using htx) hM hC, by rw [total_send _ _ hk2, if_pos c0], hx, hf⟩
  by_cases c1 : what % 6 = 1 ∨ what % 6 = 2
  · have hi := hinv _ hk2
    have i1 := hi.a1
    have i3 := hi.a3
    have j1 := hi.b1
    have j3 := hi.b3
    have cc := hcnt _ hk2
    have cc2 := hcnt (1 - to % 2) (by omega)
    refine (step_tick nb e C st L ρ what to at_ byte by_ text w h.mem hwhat hto c1 (to % 2) (1 - to % 2) rfl rfl ⟨by omega, by omega, by omega⟩).mono ?_
    rintro en w' ⟨rfl, ρ', C', hM, hC, hx, hf⟩
    exact ⟨rfl, ρ', C', _, _, h.tick (to % 2) _ hk2 rfl hM hC, by rw [if_neg c0]; rfl, hx, hf⟩
  by_cases hw : L 0 (to % 2) = []
  · exact (step_none nb e C st L ρ what to at_ byte by_ text w h.mem hwhat hto (by omega) (to % 2) rfl hw).mono fun en w' h1 => nothing en w' h1 c0
  have hl : 0 < (L 0 (to % 2)).length := by
    rcases Nat.eq_zero_or_pos (L 0 (to % 2)).length with h0 | h0
    · exact absurd (List.eq_nil_of_length_eq_zero h0) hw
    · exact h0
  have hq : at_ % (L 0 (to % 2)).length < (L 0 (to % 2)).length := Nat.mod_lt _ hl
  obtain ⟨p, hX, hg⟩ := h.way _ hk2 _ (List.getElem_mem hq)
  have hXl : ((L 0 (to % 2))[at_ % (L 0 (to % 2)).length]).length ≤ 1000 := by rw [hX]; exact bytesN_len p hg.2.1
  by_cases c3 : what % 6 = 3 ∨ what % 6 = 4
  · refine (step_recv nb e C st L ρ what to at_ byte by_ text w h.mem h.fine hwhat hto hat c3 (to % 2) rfl hl (fun k hk => by have := hcnt k hk; have := htold k hk; omega) (hinv _ hk2) p hg _ hX (List.getElem?_eq_getElem hq) hXl).mono ?_
    rintro en w' ⟨rfl, ρ', C', o, hM, hC, ht, hx, hf⟩
    exact ⟨rfl, ρ', C', _, _, (h.recv (to % 2) hk2 p hg o ht hM hC).more, by rw [if_neg c0]; exact total_same (upd_sent _ _ _ rfl), hx, hf⟩
  have c5 : what % 6 = 5 := by omega
  by_cases hb0 : by_ = 0
  · exact (step_zero nb e C st L ρ what to at_ byte by_ text w h.mem hwhat hto c5 hb0 (to % 2) rfl hl (by have := hcnt _ hk2; omega)).mono fun en w' h1 => nothing en w' h1 c0
  · refine (step_turn nb e C st L ρ what to at_ byte by_ text w h.mem h.fine hwhat hto hat hbyte hby c5 (by omega) (to % 2) rfl hl (by have := hcnt _ hk2; omega) p _ hX (List.getElem?_eq_getElem hq) hXl).mono ?_
    rintro en w' ⟨rfl, ρ', C', hM, hC, hx, hf⟩
    have hN : Net w' ρ' nb e C' st L n := { h with mem := hM, fine := hC }
    exact ⟨rfl, ρ', C', st, L, hN.more, by rw [if_neg c0]; rfl, hx, hf⟩
end Go.Proofs.Ytominjooffecnaa.WLk
