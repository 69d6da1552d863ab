/- Laws of no program: slices that lie in blocks of a tag, appended to and cut; calls at a step of a region that draws. -/
import Derived.Test.YtominjooffecnaaApp
import Derived.ArgAppend
import Derived.Deep.RegionLaw
import Derived.Deep.Upon
namespace Go.Proofs.Ytominjooffecnaa
open Go Go.RowKit

/-- a slice whose elements lie in a block of tag τ -/
def Sl (w : World) (ρ : Nat → Nat) (τ size : Nat) (v : Value) (n : Nat) (xs : List Value) : Prop :=
  xs.length = n * size ∧ ((v = .slice none 0 0 ∧ n = 0) ∨
    ∃ g off cap, v = .slice (some ⟨g, off, none⟩) n cap ∧ ρ g = τ ∧ n ≤ cap ∧ cap ≤ maxLen ∧ g < w.heap.size ∧ (∀ j u, xs[j]? = some u → w.cell? ⟨g, off + j, none⟩ = some u) ∧
      ∀ j, j < cap * size → (w.cell? ⟨g, off + j, none⟩).isSome = true ∧ w.frozen? ⟨g, off + j, none⟩ = false)

/-- what may have turned: blocks of the tags T alone -/
structure Fr (T : Nat → Prop) (ρ : Nat → Nat) (w w' : World) : Prop where
  os : w'.os = w.os
  tape : w'.tape = w.tape
  output : w'.output = w.output
  size : w.heap.size ≤ w'.heap.size
  block : ∀ k, k < w.heap.size → ¬ T (ρ k) → w'.heap[k]? = w.heap[k]?

/-- tags of new blocks -/
def xt (ρ : Nat → Nat) (N τ : Nat) : Nat → Nat := fun k => if k < N then ρ k else τ
theorem xt_old {ρ : Nat → Nat} {N τ k : Nat} (h : k < N) : xt ρ N τ k = ρ k := if_pos h
theorem xt_new {ρ : Nat → Nat} {N τ k : Nat} (h : N ≤ k) : xt ρ N τ k = τ := if_neg (by omega)

/-- tags agree on old blocks -/
def Xt (ρ ρ' : Nat → Nat) (N : Nat) : Prop := ∀ k, k < N → ρ' k = ρ k
theorem Xt.refl (ρ : Nat → Nat) (N : Nat) : Xt ρ ρ N := fun _ _ => rfl
theorem Xt.xt (ρ : Nat → Nat) (N τ : Nat) : Xt ρ (xt ρ N τ) N := fun _ h => xt_old h
theorem Xt.trans {a b c : Nat → Nat} {N M : Nat} (h : Xt a b N) (k : Xt b c M) (hNM : N ≤ M) : Xt a c N := fun i hi => (k i (by omega)).trans (h i hi)

theorem Fr.refl (T : Nat → Prop) (ρ : Nat → Nat) (w : World) : Fr T ρ w w := ⟨rfl, rfl, rfl, Nat.le_refl _, fun _ _ _ => rfl⟩
theorem Fr.drew {T : Nat → Prop} {ρ : Nat → Nat} {w w' : World} (h : Fr T ρ w w') : Fr T ρ w w'.drew := ⟨h.os, h.tape, h.output, h.size, h.block⟩
theorem Fr.trans {T : Nat → Prop} {ρ ρ' : Nat → Nat} {a b c : World} (h : Fr T ρ a b) (k : Fr T ρ' b c) (hx : Xt ρ ρ' a.heap.size) : Fr T ρ a c :=
  ⟨k.os.trans h.os, k.tape.trans h.tape, k.output.trans h.output, Nat.le_trans h.size k.size, fun i hi hT => (k.block i (Nat.lt_of_lt_of_le hi h.size) (by rw [hx i hi]; exact hT)).trans (h.block i hi hT)⟩
theorem Fr.mono {T U : Nat → Prop} {ρ : Nat → Nat} {a b : World} (h : Fr T ρ a b) (hTU : ∀ k, T k → U k) : Fr U ρ a b :=
  ⟨h.os, h.tape, h.output, h.size, fun i hi hT => h.block i hi (fun e => hT (hTU _ e))⟩
theorem Fr.of_below {T : Nat → Prop} {ρ : Nat → Nat} {w w' : World} (h : Below w.heap.size w w') : Fr T ρ w w' := ⟨h.os, h.tape, h.output, h.size, fun k hk _ => h.block k hk⟩
theorem Fr.setCell {T : Nat → Prop} {ρ : Nat → Nat} {w w' : World} (h : Fr T ρ w w') (p : Addr) (v : Value) (hp : p.block < w.heap.size → T (ρ p.block)) : Fr T ρ w (w'.setCell p v) := by
  refine ⟨by simpa [World.setCell] using h.os, by simpa [World.setCell] using h.tape, by simpa [World.setCell] using h.output, by simpa using h.size, fun k hk hT => ?_⟩
  rw [Below.heap_setCell _ _ _ _ (fun e => hT (by rw [e]; exact hp (by omega)))]
  exact h.block k hk hT
theorem tape_setCells (b : Nat) : ∀ (vs : List Value) (o : Nat) (w : World), (w.setCells b o vs).tape = w.tape := by
  intro vs
  induction vs with
  | nil => intro o w; rfl
  | cons v vs ih => intro o w; rw [World.setCells, ih]; simp [World.setCell]
theorem Fr.alloc {T : Nat → Prop} {ρ : Nat → Nat} {w w' : World} (h : Fr T ρ w w') (o : Obj) : Fr T ρ w (w'.alloc o) :=
  ⟨h.os, h.tape, h.output, by have := h.size; simp; omega, fun k hk hT => (heap_alloc_old w' o k (by have := h.size; omega)).trans (h.block k hk hT)⟩
theorem Fr.below {T : Nat → Prop} {ρ : Nat → Nat} {a w w' : World} {B : Nat} (hb : Below B a w) (h : Fr T ρ w w') (hB : B ≤ w.heap.size) (hT : ∀ k, k < B → ¬ T (ρ k)) : Below B a w' :=
  ⟨h.os.trans hb.os, h.tape.trans hb.tape, h.output.trans hb.output, Nat.le_trans hb.size h.size, fun k hk => (h.block k (by omega) (hT k hk)).trans (hb.block k hk)⟩

section
variable {w w' : World} {ρ ρ' : Nat → Nat} {τ size n : Nat} {v : Value} {xs : List Value}

theorem Sl.nil (w : World) (ρ : Nat → Nat) (τ size : Nat) : Sl w ρ τ size (.slice none 0 0) 0 [] := ⟨by simp, .inl ⟨rfl, rfl⟩⟩

theorem Sl.keep (h : Sl w ρ τ size v n xs) (hb : ∀ k, k < w.heap.size → ρ k = τ → w'.heap[k]? = w.heap[k]?) (hs : w.heap.size ≤ w'.heap.size) (hx : Xt ρ ρ' w.heap.size) : Sl w' ρ' τ size v n xs := by
  refine ⟨h.1, ?_⟩
  rcases h.2 with h | ⟨g, off, cap, hv, hρ, h1, h2, hg, hc, hf⟩
  · exact .inl h
  · have hbg := hb g hg hρ
    refine .inr ⟨g, off, cap, hv, by rw [hx g hg]; exact hρ, h1, h2, by omega, fun j u hu => ?_, fun j hj => ?_⟩
    · rw [World.cell?_of_block (a := ⟨g, off + j, none⟩) hbg]; exact hc j u hu
    · rw [World.cell?_of_block (a := ⟨g, off + j, none⟩) hbg, World.frozen?_of_block (a := ⟨g, off + j, none⟩) hbg]; exact hf j hj
theorem Sl.fr {T : Nat → Prop} (h : Sl w ρ τ size v n xs) (hf : Fr T ρ w w') (hT : ¬ T τ) (hx : Xt ρ ρ' w.heap.size) : Sl w' ρ' τ size v n xs :=
  h.keep (fun k hk e => hf.block k hk (by rw [e]; exact hT)) hf.size hx
theorem Sl.below (h : Sl w ρ τ size v n xs) (hb : Below w.heap.size w w') : Sl w' ρ τ size v n xs := h.keep (fun k hk _ => hb.block k hk) hb.size (Xt.refl _ _)
theorem Sl.alloc (h : Sl w ρ τ size v n xs) (o : Obj) : Sl (w.alloc o) ρ τ size v n xs := h.keep (fun k hk _ => heap_alloc_old w o k hk) (by simp) (Xt.refl _ _)
theorem Sl.drew (h : Sl w ρ τ size v n xs) : Sl w.drew ρ τ size v n xs := h
theorem Sl.form (h : Sl w ρ τ size v n xs) : ∃ A c, v = .slice A n c ∧ n ≤ c ∧ c ≤ maxLen := by
  rcases h.2 with ⟨rfl, rfl⟩ | ⟨g, off, cap, rfl, _, h1, h2, _⟩
  · exact ⟨_, _, rfl, Nat.le_refl _, Nat.zero_le _⟩
  · exact ⟨_, _, rfl, h1, h2⟩

/-- an owned row of new blocks -/
theorem Sl.of_own {base : Nat} {e : TypeId} (h : w.ownsRow base e size v n xs) (hρ : ∀ k, v.ownBlock = some k → ρ k = τ) : Sl w ρ τ size v n xs := by
  refine ⟨h.1, ?_⟩
  rcases h.2 with ⟨rfl, rfl⟩ | ⟨g, cap, cur, rfl, _, hg, h1, h2, hcs, hx⟩
  · exact .inl ⟨rfl, rfl⟩
  · refine .inr ⟨g, 0, cap, rfl, hρ g rfl, h1, h2, (Array.getElem?_eq_some_iff.1 hg).1, fun j u hu => ?_, fun j hj => ?_⟩
    · rw [Nat.zero_add, cell_of_row w g j cur e (0, 0) hg]
      rw [← hx, List.getElem?_take] at hu
      split at hu
      · simpa using hu
      · cases hu
    · rw [Nat.zero_add, cell_of_row w g j cur e (0, 0) hg]
      refine ⟨by simp; omega, by simp [World.frozen?, hg]⟩

variable {P : Program}

/-- append, what comes of it -/
theorem run_append_sl (t ty e : TypeId) (i : TypeInfo) (z : Value) (bytes : Nat) (ht : P.underlying t = some (.slice e)) (hi : P.info? e = some i) (hz : i.zero = some z)
    (hsize : i.size = size) (hby : i.bytes = bytes) (hzs : z.cells.size = size) (hsz : 0 < size)
    (hown : Sl w ρ τ size v n xs)
    (ad : Addr) (m c : Nat) (news : List Value) (hl : news.length = m * size) (hnews : ∀ j u, news[j]? = some u → w.cell? (ad.add j) = some u) (h1 : ∀ u ∈ news, u.oneCell' = true)
    (h63 : n + m ≤ maxLen) (hbytes : (n + m) * bytes ≤ 140737488355328) :
    ∃ v' w', (Builtin.append_ #[t, t] ty #[v, .slice (some ad) m c]).run P w = .ok v' w' ∧ Sl w' (xt ρ w.heap.size τ) τ size v' (n + m) (xs ++ news) ∧ Fr (· = τ) ρ w w' := by
  have grow : ∀ v' w', w'.ownsRow w.heap.size e size v' (n + m) (xs ++ news) → w.grownBy w' none → Sl w' (xt ρ w.heap.size τ) τ size v' (n + m) (xs ++ news) ∧ Fr (· = τ) ρ w w' := by
    intro v' w' ho hg
    refine ⟨Sl.of_own ho (fun k hk => xt_new (ho.lt k hk).1), hg.os, hg.tape, hg.output, hg.size, fun k hk _ => hg.block k hk (by simp)⟩
  rcases hown.2 with ⟨rfl, rfl⟩ | ⟨g, off, cap, rfl, hρ, hnc, hcm, hg, hc, hf⟩
  · obtain rfl : xs = [] := List.eq_nil_of_length_eq_zero (by simpa using hown.1)
    obtain ⟨v', w', hr, h2, h3, _⟩ := run_append_own (P := P) w w.heap.size t ty e i z size bytes ht hi hz hsize hby hzs hsz (.slice none 0 0) 0 [] (World.ownsRow_nil w _ e size) ad m c news hl hnews h1 h63 hbytes (Nat.le_refl _)
    exact ⟨v', w', hr, grow v' w' h2 h3⟩
  · by_cases hroom : n + m ≤ cap
    · have hsp : ∀ j, j < news.length → (w.cell? ⟨g, off + n * size + j, none⟩).isSome = true ∧ w.frozen? ⟨g, off + n * size + j, none⟩ = false := by
        intro j hj
        have := hf (n * size + j) (by
          have : (n + m) * size ≤ cap * size := Nat.mul_le_mul_right _ hroom
          rw [Nat.add_mul] at this
          omega)
        rw [← Nat.add_assoc] at this
        exact this
      subst hsize
      have hr := run_append_room_cells (P := P) w t ty e i ht hi g off n cap ad m c news hl hnews h1 hroom (fun j hj => (hsp j hj).1) (fun j hj => (hsp j hj).2)
      refine ⟨_, _, hr, ⟨by rw [List.length_append, hown.1, hl, Nat.add_mul], .inr ⟨g, off, cap, rfl, by rw [xt_old hg]; exact hρ, hroom, hcm, ?_, fun j u hu => ?_, fun j hj => ?_⟩⟩, ?_⟩
      · have := (World.keptBut_setCells g (may := fun _ => True) news (off + n * i.size) w (fun _ _ => trivial)).size
        omega
      · by_cases hjx : j < xs.length
        · rw [List.getElem?_append_left hjx] at hu
          rw [World.cell?_setCells_out _ _ _ _ _ (fun _ _ => by left; rw [hown.1] at hjx; simp; omega)]
          exact hc j u hu
        · rw [List.getElem?_append_right (by omega)] at hu
          have hjn : j - xs.length < news.length := (List.getElem?_eq_some_iff.1 hu).1
          have := World.cell?_setCells_in g news (off + n * i.size) w (fun j hj => (hsp j hj).1) (j - xs.length) hjn
          have e1 : off + n * i.size + (j - xs.length) = off + j := by rw [hown.1] at hjx ⊢; omega
          rw [e1] at this
          rw [this]
          rw [List.getElem?_eq_getElem hjn] at hu
          exact hu
      · rw [World.frozen?_setCells]
        refine ⟨?_, (hf j hj).2⟩
        by_cases hin : n * i.size ≤ j ∧ j < n * i.size + news.length
        · have := World.cell?_setCells_in g news (off + n * i.size) w (fun j hj => (hsp j hj).1) (j - n * i.size) (by omega)
          rw [show off + n * i.size + (j - n * i.size) = off + j from by omega] at this
          rw [this]; rfl
        · rw [World.cell?_setCells_out _ _ _ _ _ (fun _ _ => by simp; omega)]
          exact (hf j hj).1
      · refine ⟨World.os_setCells .., ?_, World.output_setCells .., ?_, fun k hk hT => ?_⟩
        · exact tape_setCells ..
        · exact (World.keptBut_setCells g (may := fun _ => True) news (off + n * i.size) w (fun _ _ => trivial)).size
        · exact World.heap_setCells_other _ _ _ _ hk (fun e => hT (by rw [e]; exact hρ))
    · obtain ⟨v', w', hr, h2, h3⟩ := run_append_arg_grows (P := P) w t ty e i z size bytes ht hi hz hsize hby hzs hsz ⟨g, off, none⟩ n cap xs hown.1 (fun j u hj => by rw [Addr.add_lit]; exact hc j u hj) ad m c news hl hnews (by omega) h63 hbytes
      exact ⟨v', w', hr, grow v' w' h2 h3⟩

theorem wp_append_sl {o : Oper} {a : Act} {K : Act → World → Prop} {Q : Exit → Act → World → Prop} (s x : Operand) (t : TypeId)
    (ho : o.op = .call { callee := .builtin .append, args := #[s, x], argTypes := #[t, t] })
    (e : TypeId) (i : TypeInfo) (z : Value) (bytes : Nat) (ht : P.underlying t = some (.slice e)) (hi : P.info? e = some i) (hz : i.zero = some z)
    (hsize : i.size = size) (hby : i.bytes = bytes) (hzs : z.cells.size = size) (hsz : 0 < size)
    (hown : Sl w ρ τ size v n xs) (hs : a.eval s = v)
    (ad : Addr) (m c : Nat) (news : List Value) (hx : a.eval x = .slice (some ad) m c) (hl : news.length = m * size) (hnews : ∀ j u, news[j]? = some u → w.cell? (ad.add j) = some u) (h1 : ∀ u ∈ news, u.oneCell' = true)
    (h63 : n + m ≤ maxLen) (hbytes : (n + m) * bytes ≤ 140737488355328)
    (h : ∀ v' w', Sl w' (xt ρ w.heap.size τ) τ size v' (n + m) (xs ++ news) → Fr (· = τ) ρ w w' → K (a.put o.dst v') w') : o.wp P a w K Q := by
  obtain ⟨v', w', hr, h2, h3⟩ := run_append_sl (P := P) t o.type e i z bytes ht hi hz hsize hby hzs hsz hown ad m c news hl hnews h1 h63 hbytes
  unfold Oper.wp execOp
  simp only [ho, resolve, invoke, builtin, Sem.run_bind, Sem.run_pure, Result.andThen_ok, List.map_toArray, List.map_cons, List.map_nil, hs, hx, hr]
  exact h v' w' h2 h3

theorem wpList_append_sl {ops : Array Oper} {rest : List Oper} {o : Oper} {a : Act} {Q : Exit → Act → World → Prop} (hgd : o.guard = none) (s x : Operand) (t : TypeId)
    (ho : o.op = .call { callee := .builtin .append, args := #[s, x], argTypes := #[t, t] })
    (e : TypeId) (i : TypeInfo) (z : Value) (bytes : Nat) (ht : P.underlying t = some (.slice e)) (hi : P.info? e = some i) (hz : i.zero = some z)
    (hsize : i.size = size) (hby : i.bytes = bytes) (hzs : z.cells.size = size) (hsz : 0 < size)
    (hown : Sl w ρ τ size v n xs) (hs : a.eval s = v)
    (ad : Addr) (m c : Nat) (news : List Value) (hx : a.eval x = .slice (some ad) m c) (hl : news.length = m * size) (hnews : ∀ j u, news[j]? = some u → w.cell? (ad.add j) = some u) (h1 : ∀ u ∈ news, u.oneCell' = true)
    (h63 : n + m ≤ maxLen) (hbytes : (n + m) * bytes ≤ 140737488355328)
    (h : ∀ v' w', Sl w' (xt ρ w.heap.size τ) τ size v' (n + m) (xs ++ news) → Fr (· = τ) ρ w w' → wpList P ops Q rest (a.put o.dst v') w') : wpList P ops Q (o :: rest) a w :=
  wpList_plain hgd fun _ hK => wp_append_sl s x t ho e i z bytes ht hi hz hsize hby hzs hsz hown hs ad m c news hx hl hnews h1 h63 hbytes fun v' w' h2 h3 => hK _ _ (h v' w' h2 h3)

theorem step_append_sl {ops : Array Oper} {o : Oper} {a : Act} {K : Act → World → Prop} {Q : Exit → Act → World → Prop} {E : Prop} (hgd : o.guard = none) (s x : Operand) (t : TypeId)
    (ho : o.op = .call { callee := .builtin .append, args := #[s, x], argTypes := #[t, t] })
    (e : TypeId) (i : TypeInfo) (z : Value) (bytes : Nat) (ht : P.underlying t = some (.slice e)) (hi : P.info? e = some i) (hz : i.zero = some z)
    (hsize : i.size = size) (hby : i.bytes = bytes) (hzs : z.cells.size = size) (hsz : 0 < size)
    (hown : Sl w ρ τ size v n xs) (hs : a.eval s = v)
    (ad : Addr) (m c : Nat) (news : List Value) (hx : a.eval x = .slice (some ad) m c) (hl : news.length = m * size) (hnews : ∀ j u, news[j]? = some u → w.cell? (ad.add j) = some u) (h1 : ∀ u ∈ news, u.oneCell' = true)
    (h63 : n + m ≤ maxLen) (hbytes : (n + m) * bytes ≤ 140737488355328)
    (h : ∀ v' w', Sl w' (xt ρ w.heap.size τ) τ size v' (n + m) (xs ++ news) → Fr (· = τ) ρ w w' → K (a.put o.dst v') w') :
    if Region.wanted o (yielded ops a.tmps) = true then Oper.wp P o a w K Q else E := by
  have hw : Region.wanted o (yielded ops a.tmps) = true := by simp [Region.wanted, hgd]
  rw [if_pos hw]
  exact wp_append_sl s x t ho e i z bytes ht hi hz hsize hby hzs hsz hown hs ad m c news hx hl hnews h1 h63 hbytes h

/-- append of a nil slice -/
theorem step_append_none {ops : Array Oper} {o : Oper} {a : Act} {K : Act → World → Prop} {Q : Exit → Act → World → Prop} {E : Prop} (hgd : o.guard = none) (s x : Operand) (t : TypeId)
    (ho : o.op = .call { callee := .builtin .append, args := #[s, x], argTypes := #[t, t] })
    (e : TypeId) (i : TypeInfo) (ht : P.underlying t = some (.slice e)) (hi : P.info? e = some i) (_hsize : i.size = size)
    (hown : Sl w ρ τ size v n xs) (hs : a.eval s = v) (hx : a.eval x = .slice none 0 0)
    (h : K (a.put o.dst v) w) :
    if Region.wanted o (yielded ops a.tmps) = true then Oper.wp P o a w K Q else E := by
  have hw : Region.wanted o (yielded ops a.tmps) = true := by simp [Region.wanted, hgd]
  rw [if_pos hw]
  have hr : (Builtin.append_ #[t, t] o.type #[v, .slice none 0 0]).run P w = .ok v w := by
    rcases hown.2 with ⟨rfl, rfl⟩ | ⟨g, off, cap, rfl, _, hnc, _⟩
    · simp [Builtin.append_, run_underlying ht, sizeOf, typeInfo, hi, Builtin.lenOf, Builtin.firstCells]
    · simp [Builtin.append_, run_underlying ht, sizeOf, typeInfo, hi, Builtin.lenOf, Builtin.firstCells, hnc, storeCells]
  unfold Oper.wp execOp
  simp only [ho, resolve, invoke, builtin, Sem.run_bind, Sem.run_pure, Result.andThen_ok, List.map_toArray, List.map_cons, List.map_nil, hs, hx, hr]
  exact h

/-- a call of a Go function, at a step of a region that draws -/
theorem step_call {ops : Array Oper} {o : Oper} {a : Act} {K : Act → World → Prop} {Q : Exit → Act → World → Prop} {E : Prop} (hgd : o.guard = none) (f : FuncId) (args : Array Value)
    (he : (execOp a.eval o).run P w = .ok (.enter f args) w) {R : Ending → World → Prop} (hc : Calls P f args w R)
    (h : ∀ e w', R e w' → ∃ v, e = .returned v ∧ K (a.put o.dst v) w') :
    if Region.wanted o (yielded ops a.tmps) = true then Oper.wp P o a w K Q else E := by
  have hw : Region.wanted o (yielded ops a.tmps) = true := by simp [Region.wanted, hgd]
  rw [if_pos hw]
  unfold Oper.wp
  rw [he, Oper.upon_enter]
  refine hc.mono fun e w' hR => ?_
  obtain ⟨v, rfl, hk⟩ := h e w' hR
  exact hk
end
end Go.Proofs.Ytominjooffecnaa
