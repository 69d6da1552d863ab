/- Plain words on the link of layer 24: parts, messages, what two ends know of one another. No program in sight. -/
import Derived.Test.YtominjooffecnaaPVi
namespace Kn.Lk

/-- a part: its bytes, and whether it ends a message -/
structure Part where
  text : List UInt8
  last : Bool

/-- a message's parts -/
def partsF : Nat → List UInt8 → List Part
  | 0, m => [⟨m, true⟩]
  | k + 1, m => if m.length ≤ 200 then [⟨m, true⟩] else ⟨m.take 200, false⟩ :: partsF k (m.drop 200)
def parts (m : List UInt8) : List Part := partsF m.length m

theorem partsF_enough : ∀ (k j : Nat) (m : List UInt8), m.length ≤ k → m.length ≤ j → partsF k m = partsF j m := by
  intro k
  induction k with
  | zero =>
    intro j m hk _
    cases j with
    | zero => rfl
    | succ j => rw [partsF, partsF, if_pos (by omega)]
  | succ k ih =>
    intro j m hk hj
    cases j with
    | zero => rw [partsF, partsF, if_pos (by omega)]
    | succ j =>
      rw [partsF, partsF]
      split
      · rfl
      · rw [ih j (m.drop 200) (by simp; omega) (by simp; omega)]
theorem parts_short {m : List UInt8} (h : m.length ≤ 200) : parts m = [⟨m, true⟩] := by
  rw [parts, partsF_enough _ (m.length + 1) m (Nat.le_refl _) (by omega), partsF, if_pos h]
theorem parts_long {m : List UInt8} (h : 200 < m.length) : parts m = ⟨m.take 200, false⟩ :: parts (m.drop 200) := by
  rw [parts, partsF_enough _ (m.length + 1) m (Nat.le_refl _) (by omega), partsF, if_neg (by omega), parts]
  congr 1
  exact partsF_enough _ _ _ (by simp) (Nat.le_refl _)

theorem parts_ind {Q : List UInt8 → Prop} (h1 : ∀ m, m.length ≤ 200 → Q m) (h2 : ∀ m, 200 < m.length → Q (m.drop 200) → Q m) (m : List UInt8) : Q m := by
  obtain ⟨k, hk⟩ : ∃ k, m.length ≤ k := ⟨_, Nat.le_refl _⟩
  induction k generalizing m with
  | zero => exact h1 m (by omega)
  | succ k ih =>
    by_cases h : m.length ≤ 200
    · exact h1 m h
    · exact h2 m (by omega) (ih _ (by simp; omega))

theorem parts_text (m : List UInt8) : ∀ p ∈ parts m, p.text.length ≤ 200 := by
  refine parts_ind (Q := fun m => ∀ p ∈ parts m, p.text.length ≤ 200) ?_ ?_ m
  · intro m h p hp
    rw [parts_short h, List.mem_singleton] at hp
    subst hp; exact h
  · intro m h ih p hp
    rw [parts_long h] at hp
    rcases List.mem_cons.1 hp with rfl | hp
    · simp; omega
    · exact ih p hp
theorem parts_len (m : List UInt8) : (parts m).length * 200 ≤ m.length + 200 := by
  refine parts_ind (Q := fun m => (parts m).length * 200 ≤ m.length + 200) ?_ ?_ m
  · intro m h
    rw [parts_short h]; simp
  · intro m h ih
    rw [parts_long h]
    simp at ih ⊢; omega

/-- the messages told, and the bytes of one that is not whole -/
def take1 (x : List (List UInt8) × List UInt8) (p : Part) : List (List UInt8) × List UInt8 := if p.last then (x.1 ++ [x.2 ++ p.text], []) else (x.1, x.2 ++ p.text)
def recv (L : List Part) : List (List UInt8) × List UInt8 := L.foldl take1 ([], [])

theorem recv_snoc (L : List Part) (p : Part) : recv (L ++ [p]) = take1 (recv L) p := by rw [recv, List.foldl_append]; rfl
theorem fold_parts (m : List UInt8) : ∀ (T : List (List UInt8)) (x : List UInt8), (parts m).foldl take1 (T, x) = (T ++ [x ++ m], []) := by
  refine parts_ind (Q := fun m => ∀ (T : List (List UInt8)) (x : List UInt8), (parts m).foldl take1 (T, x) = (T ++ [x ++ m], [])) ?_ ?_ m
  · intro m h T x
    rw [parts_short h]; rfl
  · intro m h ih T x
    rw [parts_long h, List.foldl_cons, take1]
    simp only
    rw [if_neg (by simp), ih]
    simp
theorem fold_all : ∀ (S : List (List UInt8)) (T : List (List UInt8)), (S.flatMap parts).foldl take1 (T, []) = (T ++ S, []) := by
  intro S
  induction S with
  | nil => intro T; simp
  | cons m S ih =>
    intro T
    rw [List.flatMap_cons, List.foldl_append, fold_parts, ih]
    simp
theorem recv_all (S : List (List UInt8)) : recv (S.flatMap parts) = (S, []) := by rw [recv, fold_all]; simp
theorem fold_mono : ∀ (L : List Part) (x : List (List UInt8) × List UInt8), x.1 <+: (L.foldl take1 x).1 := by
  intro L
  induction L with
  | nil => intro x; exact List.prefix_refl _
  | cons p L ih =>
    intro x
    rw [List.foldl_cons]
    refine List.IsPrefix.trans ?_ (ih _)
    rw [take1]
    split
    · exact List.prefix_append _ _
    · exact List.prefix_refl _
theorem recv_prefix (L : List Part) (k : Nat) : (recv (L.take k)).1 <+: (recv L).1 := by
  have h := fold_mono (L.drop k) (recv (L.take k))
  rw [recv, ← List.foldl_append, List.take_append_drop] at h
  exact h
theorem pend_le : ∀ (L : List Part) (x : List (List UInt8) × List UInt8) (B : Nat), (∀ p ∈ L, p.text.length ≤ B) → (L.foldl take1 x).2.length ≤ x.2.length + L.length * B := by
  intro L
  induction L with
  | nil => intro x B _; simp
  | cons p L ih =>
    intro x B h
    rw [List.foldl_cons]
    have h1 := ih (take1 x p) B (fun q hq => h q (by simp [hq]))
    have h2 := h p (by simp)
    have h3 : (take1 x p).2.length ≤ x.2.length + B := by
      rw [take1]
      split
      · simp
      · simp; omega
    rw [List.length_cons, Nat.add_mul]
    omega

/-- one end: what it sent, how many of its parts were confirmed, how many it took -/
structure E where
  sent : List (List UInt8)
  done : Nat
  took : Nat
def E.all (e : E) : List Part := e.sent.flatMap parts

/-- what two ends know of one another -/
structure Inv (A B : E) : Prop where
  a1 : A.done ≤ B.took
  a2 : B.took ≤ A.done + 1
  a3 : B.took ≤ A.all.length
  b1 : B.done ≤ A.took
  b2 : A.took ≤ B.done + 1
  b3 : A.took ≤ B.all.length
theorem Inv.symm {A B : E} (h : Inv A B) : Inv B A := ⟨h.b1, h.b2, h.b3, h.a1, h.a2, h.a3⟩

/-- a packet -/
structure Pk where
  n : Nat
  part : Part
  took : Nat

/-- it may be on the way from B to A -/
def Good (_A B : E) (p : Pk) : Prop := p.took ≤ B.took ∧ p.part.text.length ≤ 200 ∧ (p.n = 0 ∨ (1 ≤ p.n ∧ p.n ≤ B.done + 1 ∧ B.all[p.n - 1]? = some p.part))

/-- what came later -/
structure Later (A A' : E) : Prop where
  sent : ∃ L, A'.sent = A.sent ++ L
  done : A.done ≤ A'.done
  took : A.took ≤ A'.took
theorem Later.refl (A : E) : Later A A := ⟨⟨[], by simp⟩, Nat.le_refl _, Nat.le_refl _⟩
theorem Good.later {A A' B B' : E} {p : Pk} (h : Good A B p) (hB : Later B B') : Good A' B' p := by
  refine ⟨Nat.le_trans h.1 hB.took, h.2.1, h.2.2.imp id fun ⟨h1, h2, h3⟩ => ⟨h1, ?_, ?_⟩⟩
  · have := hB.done; omega
  · obtain ⟨L, hL⟩ := hB.sent
    rw [E.all, hL, List.flatMap_append]
    have hlt : p.n - 1 < B.all.length := (List.getElem?_eq_some_iff.1 h3).1
    show (B.all ++ L.flatMap parts)[p.n - 1]? = some p.part
    rw [List.getElem?_append_left hlt]
    exact h3

/-- what an end sends -/
def tick (A : E) : Pk := if h : A.done < A.all.length then ⟨A.done + 1, A.all[A.done], A.took⟩ else ⟨0, ⟨[], false⟩, A.took⟩
theorem all_text (A : E) : ∀ p ∈ A.all, p.text.length ≤ 200 := by
  intro p hp
  rw [E.all, List.mem_flatMap] at hp
  obtain ⟨m, _, h⟩ := hp
  exact parts_text m p h
theorem tick_good (A B : E) : Good A B (tick B) := by
  rw [tick]
  split
  · rename_i h
    exact ⟨Nat.le_refl _, all_text B _ (List.getElem_mem h), .inr ⟨by simp, by simp, by simp [h]⟩⟩
  · exact ⟨Nat.le_refl _, by simp, .inl rfl⟩

/-- an end that a packet comes to -/
def got (A : E) (p : Pk) : E := ⟨A.sent, if A.done < A.all.length ∧ p.took = A.done + 1 then A.done + 1 else A.done, if p.n = A.took + 1 then A.took + 1 else A.took⟩
theorem got_all (A : E) (p : Pk) : (got A p).all = A.all := rfl
theorem got_later (A : E) (p : Pk) : Later A (got A p) := by
  refine ⟨⟨[], by simp [got]⟩, ?_, ?_⟩ <;> simp only [got] <;> split <;> omega
theorem inv_got {A B : E} {p : Pk} (h : Inv A B) (hg : Good A B p) : Inv (got A p) B := by
  obtain ⟨h1, _, h2⟩ := hg
  have hlt : p.n = A.took + 1 → A.took ≤ B.done ∧ A.took + 1 ≤ B.all.length := by
    intro e
    rcases h2 with h2 | ⟨_, h3, h4⟩
    · omega
    · have := (List.getElem?_eq_some_iff.1 h4).1
      omega
  have := h.a1
  have := h.a2
  have := h.a3
  have := h.b1
  have := h.b2
  have := h.b3
  refine ⟨?_, ?_, ?_, ?_, ?_, ?_⟩
  · simp only [got]; split <;> omega
  · simp only [got]; split <;> omega
  · rw [got_all]; exact h.a3
  · simp only [got]; split <;> omega
  · simp only [got]; split <;> omega
  · simp only [got]; split <;> omega
theorem got_part {A B : E} {p : Pk} (hg : Good A B p) (e : p.n = A.took + 1) : B.all[A.took]? = some p.part := by
  obtain ⟨_, _, h2⟩ := hg
  rcases h2 with h2 | ⟨_, _, h4⟩
  · omega
  · rw [e] at h4; simpa using h4
/-- what it is told -/
def told (A B : E) : List (List UInt8) := (recv (B.all.take A.took)).1
def pend (A B : E) : List UInt8 := (recv (B.all.take A.took)).2
theorem told_got {A B : E} {p : Pk} (hg : Good A B p) (e : p.n = A.took + 1) : (told (got A p) B, pend (got A p) B) = take1 (told A B, pend A B) p.part := by
  have h := got_part hg e
  have hlt := (List.getElem?_eq_some_iff.1 h).1
  have hp : B.all[A.took] = p.part := by rw [List.getElem?_eq_getElem hlt] at h; exact Option.some.inj h
  have ht : (got A p).took = A.took + 1 := by simp only [got]; rw [if_pos e]
  rw [told, pend, ht, List.take_succ_eq_append_getElem hlt, recv_snoc, hp]
  rfl
theorem told_not {A B : E} {p : Pk} (e : p.n ≠ A.took + 1) : told (got A p) B = told A B ∧ pend (got A p) B = pend A B := by
  have ht : (got A p).took = A.took := by simp only [got]; rw [if_neg e]
  rw [told, pend, ht]
  exact ⟨rfl, rfl⟩
theorem told_prefix (A B : E) : told A B <+: B.sent := by
  have := recv_prefix B.all A.took
  rw [show recv B.all = (B.sent, []) from recv_all B.sent] at this
  exact this
theorem told_whole {A B : E} (h : A.took = B.all.length) : told A B = B.sent := by
  rw [told, h, List.take_length]
  exact congrArg Prod.fst (recv_all B.sent)
theorem pend_len (A B : E) : (pend A B).length ≤ A.took * 200 := by
  have h := pend_le (B.all.take A.took) ([], []) 200 (fun p hp => all_text B p (List.mem_of_mem_take hp))
  have h2 : (B.all.take A.took).length ≤ A.took := by simp; omega
  have h3 : (B.all.take A.took).length * 200 ≤ A.took * 200 := Nat.mul_le_mul_right _ h2
  rw [pend, recv]
  simp at h h3 ⊢
  omega

/-- an end that sends -/
def send (A : E) (m : List UInt8) : E := ⟨A.sent ++ [m], A.done, A.took⟩
theorem send_all (A : E) (m : List UInt8) : (send A m).all = A.all ++ parts m := by simp [send, E.all]
theorem send_later (A : E) (m : List UInt8) : Later A (send A m) := ⟨⟨[m], rfl⟩, Nat.le_refl _, Nat.le_refl _⟩
theorem inv_send {A B : E} (h : Inv A B) (m : List UInt8) : Inv (send A m) B := by
  refine ⟨h.a1, h.a2, ?_, h.b1, h.b2, h.b3⟩
  rw [send_all, List.length_append]
  have := h.a3
  omega
/-- what the other one is told does not turn by it -/
theorem told_send {A B : E} (h : Inv A B) (m : List UInt8) : told B (send A m) = told B A ∧ pend B (send A m) = pend B A := by
  have : (send A m).all.take B.took = A.all.take B.took := by rw [send_all, List.take_append_of_le_length h.a3]
  rw [told, pend, this]
  exact ⟨rfl, rfl⟩
theorem told_other (A A' B : E) (h : A'.sent = A.sent) : told B A' = told B A ∧ pend B A' = pend B A := by
  rw [told, pend, told, pend, E.all, E.all, h]
  exact ⟨rfl, rfl⟩
end Kn.Lk
