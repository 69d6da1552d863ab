/- Plain facts on two streams' lines, mixed (layer 8). -/
import Derived.Test.YtominjooffecnaaWBdH
namespace Go.Proofs.Ytominjooffecnaa.WBd
open Go.RowKit Kn WPk

theorem cut_each (b : UInt8) (n : Nat) : ∀ (r p : List UInt8), p.length < n → ∀ q ∈ Bd.cut b n p r, q.kind = 0 ∧ ∃ x, q.load = b :: x ∧ 1 ≤ x.length ∧ x.length ≤ n := by
  intro r
  induction r with
  | nil =>
    intro p hp q hq
    rw [Bd.cut] at hq
    split at hq
    · cases hq
    · rename_i h
      have : 0 < p.length := List.length_pos_iff.2 h
      rw [List.mem_singleton] at hq
      subst hq
      exact ⟨rfl, p, rfl, by omega, by omega⟩
  | cons x r ih =>
    intro p hp q hq
    rw [Bd.cut] at hq
    split at hq
    · rcases List.mem_cons.1 hq with rfl | h
      · exact ⟨rfl, p ++ [x], rfl, by simp, by simp; omega⟩
      · exact ih [] (by simp; omega) q h
    · exact ih (p ++ [x]) (by simp; omega) q hq

theorem cut_join (b : UInt8) (n : Nat) : ∀ (r p : List UInt8), (Bd.cut b n p r).flatMap (fun q => q.load.tail) = p ++ r := by
  intro r
  induction r with
  | nil =>
    intro p
    rw [Bd.cut]
    split
    · rename_i h; subst h; rfl
    · simp
  | cons x r ih =>
    intro p
    rw [Bd.cut]
    split
    · rw [List.flatMap_cons, ih]; simp
    · rw [ih]; simp

/-- lines of one stream -/
def One (c : Nat) (L : List Pkt.Ln) : Prop := ∀ q ∈ L, okB q = true ∧ (q.load.headD 0).toNat = c

theorem one_cut (c : Int) (n : Nat) (t : List UInt8) (h1 : 1 ≤ c) (h3 : c ≤ 3) (hn : 1 ≤ n) (hn9 : n ≤ 999) : One c.toNat (Bd.cut (toU8 c) n [] t) := by
  intro q hq
  obtain ⟨h0, x, hx, hl1, hl2⟩ := cut_each (toU8 c) n t [] (by simp; omega) q hq
  have hc := toU8_toNat (n := c) (by omega) (by omega)
  have hh : (q.load.headD 0).toNat = c.toNat := by rw [hx]; simp; omega
  refine ⟨?_, hh⟩
  have hlen : q.load.length = x.length + 1 := by rw [hx]; rfl
  simp only [okB, Bool.and_eq_true, decide_eq_true_eq]
  exact ⟨⟨⟨⟨h0, by omega⟩, by omega⟩, by omega⟩, by omega⟩

theorem one_same {c : Nat} {L : List Pkt.Ln} (h : One c L) : strm c L = L.flatMap fun q => q.load.tail := by
  rw [strm]
  induction L with
  | nil => rfl
  | cons p L ih =>
    rw [List.flatMap_cons, List.flatMap_cons, if_pos (h p (by simp)).2, ih (fun q hq => h q (by simp [hq]))]
theorem one_other {c b : Nat} (hcb : c ≠ b) {L : List Pkt.Ln} (h : One c L) : strm b L = [] := by
  rw [strm, List.flatMap_eq_nil_iff]
  intro q hq
  rw [if_neg]
  rw [(h q hq).2]
  exact hcb
theorem strm_app (b : Nat) (L M : List Pkt.Ln) : strm b (L ++ M) = strm b L ++ strm b M := by rw [strm, List.flatMap_append]; rfl

/-- what is mixed so far -/
def Mxd (L1 L2 M : List Pkt.Ln) (i j : Nat) : Prop :=
  strm 1 M = strm 1 (L1.take i) ∧ strm 2 M = strm 2 (L2.take j) ∧ strm 3 M = [] ∧ (∀ q ∈ M, okB q = true) ∧ M.length = i + j

theorem mxd_nil (L1 L2 : List Pkt.Ln) : Mxd L1 L2 [] 0 0 := ⟨rfl, rfl, rfl, (fun _ h => by cases h), rfl⟩

theorem mxd_one {L1 L2 M : List Pkt.Ln} {i j : Nat} (h : Mxd L1 L2 M i j) (h1 : One 1 L1) (hi : i < L1.length) : Mxd L1 L2 (M ++ [L1[i]]) (i + 1) j := by
  obtain ⟨a, b, c, d, e⟩ := h
  have hm : One 1 [L1[i]] := fun q hq => by rw [List.mem_singleton] at hq; subst hq; exact h1 _ (List.getElem_mem hi)
  refine ⟨?_, ?_, ?_, ?_, by simp; omega⟩
  · rw [strm_app, a, List.take_succ_eq_append_getElem hi, strm_app]
  · rw [strm_app, b, one_other (by decide) hm, List.append_nil]
  · rw [strm_app, c, one_other (by decide) hm, List.append_nil]
  · intro q hq
    rcases List.mem_append.1 hq with h | h
    · exact d q h
    · exact (hm q h).1
theorem mxd_two {L1 L2 M : List Pkt.Ln} {i j : Nat} (h : Mxd L1 L2 M i j) (h1 : One 2 L2) (hj : j < L2.length) : Mxd L1 L2 (M ++ [L2[j]]) i (j + 1) := by
  obtain ⟨a, b, c, d, e⟩ := h
  have hm : One 2 [L2[j]] := fun q hq => by rw [List.mem_singleton] at hq; subst hq; exact h1 _ (List.getElem_mem hj)
  refine ⟨?_, ?_, ?_, ?_, by simp; omega⟩
  · rw [strm_app, a, one_other (by decide) hm, List.append_nil]
  · rw [strm_app, b, List.take_succ_eq_append_getElem hj, strm_app]
  · rw [strm_app, c, one_other (by decide) hm, List.append_nil]
  · intro q hq
    rcases List.mem_append.1 hq with h | h
    · exact d q h
    · exact (hm q h).1

theorem all_ok {M : List Pkt.Ln} (h : ∀ q ∈ M, okB q = true) : M.all okB = true := by rw [List.all_eq_true]; exact h
theorem mxd_get {L1 L2 M : List Pkt.Ln} (h : Mxd L1 L2 M L1.length L2.length) {a b : List UInt8} (ha : strm 1 L1 = a) (hb : strm 2 L2 = b) : getN M = (a, b, 0) := by
  obtain ⟨h1, h2, h3, h4, _⟩ := h
  rw [List.take_length] at h1 h2
  rw [getN, if_pos (all_ok h4), if_pos h3, h1, h2, ha, hb]
theorem mxd_three {L1 L2 M L3 : List Pkt.Ln} {i j : Nat} (h : Mxd L1 L2 M i j) (h3 : One 3 L3) (hne : L3.flatMap (fun q => q.load.tail) ≠ []) : getN (M ++ L3) = ([], [], 13) := by
  obtain ⟨_, _, m3, h4, _⟩ := h
  rw [getN, if_pos, if_neg]
  · rw [strm_app, m3, one_same h3]; exact hne
  · apply all_ok
    intro q hq
    rcases List.mem_append.1 hq with h | h
    · exact h4 q h
    · exact (h3 q h).1
theorem ok_load {M : List Pkt.Ln} (h : ∀ q ∈ M, okB q = true) : ∀ i, (hi : i < M.length) → (M[i]).load.length ≤ 5000 := by
  intro i hi
  have := h _ (List.getElem_mem hi)
  simp only [okB, Bool.and_eq_true, decide_eq_true_eq] at this
  omega
end Go.Proofs.Ytominjooffecnaa.WBd
