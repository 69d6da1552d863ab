/- What an end comes to by a packet, in the plain words (layer 24). -/
import Derived.Test.YtominjooffecnaaWLkC
namespace Go.Proofs.Ytominjooffecnaa.WLk
open Go.RowKit Kn

/-- an end's block: B is the other end -/
def EndW (w : World) (ρ : Nat → Nat) (τ c eb : Nat) (A B : Lk.E) : Prop :=
  ∃ pv, w.heap[eb]? = some (.cells #[.int .u64 c, pv, .int .u64 (A.done + 1 : Nat), .int .u64 A.took, .string ⟨(Lk.pend A B).toArray⟩] 119 (0, 0)) ∧ Sl w ρ τ 2 pv (A.all.drop A.done).length (ptsV (A.all.drop A.done))

theorem tick_eq (A : Lk.E) : Lk.tick A = tickL (A.all.drop A.done) (A.done + 1) A.took := by
  rw [Lk.tick]
  split
  · rename_i h
    rw [List.drop_eq_getElem_cons h]
    rfl
  · rename_i h
    rw [List.drop_of_length_le (by omega)]
    rfl

theorem tick_end (c : Nat) (hc : c < 18446744073709551616) (eb : Nat) (A B : Lk.E) (ρ : Nat → Nat) (τ : Nat) (w : World) (h : EndW w ρ τ c eb A B) (hd : A.done < 900000) (ht : A.took < 900000) :
    Calls Try.prog 61 #[.pointer (some ⟨eb, 0, none⟩)] w fun e w' => e = .returned (.string ⟨(bytesN c (Lk.tick A)).toArray⟩) ∧ Below w.heap.size w w' := by
  obtain ⟨pv, hrow, hsl⟩ := h
  rw [tick_eq]
  exact tick_any c hc eb pv _ (A.done + 1) A.took _ ρ τ w hrow hsl (fun p hp => Lk.all_text A p (List.mem_of_mem_drop hp)) (by omega) (by omega)

theorem recv_end (c : Nat) (hc : c < 18446744073709551616) (p : Lk.Pk) (A B : Lk.E) (hg : Lk.Good A B p) (hi : Lk.Inv A B) (hA : A.all.length < 900000) (hB : B.all.length < 5000) (s : ByteArray) (hs : s.data.toList = bytesN c p) (hsz : s.size ≤ 1000)
    (eb : Nat) (ρ : Nat → Nat) (τ : Nat) (hρ : ρ eb ≠ τ) (w : World) (h : EndW w ρ τ c eb A B) :
    Calls Try.prog 60 #[.pointer (some ⟨eb, 0, none⟩), .string s] w fun e w' => ∃ v o, e = .returned (.tuple #[v, .bool true]) ∧ Told w w' v o ∧ Hid (Lk.told (Lk.got A p) B = Lk.told A B ++ o.toList) ∧ EndW w' ρ τ c eb (Lk.got A p) B ∧ w.grownBy w' (some eb) := by
  obtain ⟨n, ⟨t, l⟩, k⟩ := p
  obtain ⟨pv, hrow, hsl⟩ := h
  have ha1 := hi.a1
  have ha3 := hi.a3
  have hb1 := hi.b1
  have hb3 := hi.b3
  have hg1 : k ≤ B.took := hg.1
  have hg2 : t.length ≤ 200 := hg.2.1
  have hn : n < 1000000 := by
    rcases hg.2.2 with h | ⟨_, h2, _⟩
    · have : n = 0 := h
      omega
    · have : n ≤ B.done + 1 := h2
      omega
  have hpl := Lk.pend_len A B
  have hpl' : (Lk.pend A B).length ≤ 1000000 := by omega
  have hdone : (Lk.got A ⟨n, ⟨t, l⟩, k⟩).done = if A.done < A.all.length ∧ k = A.done + 1 then A.done + 1 else A.done := rfl
  have htook : (Lk.got A ⟨n, ⟨t, l⟩, k⟩).took = if n = A.took + 1 then A.took + 1 else A.took := rfl
  have hall : (Lk.got A ⟨n, ⟨t, l⟩, k⟩).all = A.all := rfl
  by_cases hcf : A.done < A.all.length ∧ k = A.done + 1
  · rw [if_pos hcf] at hdone
    obtain ⟨hlt, hk⟩ := hcf
    have hdr : A.all.drop A.done = A.all[A.done] :: A.all.drop (A.done + 1) := List.drop_eq_getElem_cons hlt
    rw [hdr] at hsl
    by_cases htk : n = A.took + 1
    · have htd := Lk.told_got (p := ⟨n, ⟨t, l⟩, k⟩) hg htk
      rw [if_pos htk] at htook
      refine (recv_conf_take c hc n k t l hn (by omega) hg2 s hs hsz eb pv (A.all.drop (A.done + 1)) (A.done + 1) A.took (by omega) (by omega) (Lk.pend A B) hpl' ρ τ hρ w hrow _ hsl hk (A.done + 1 + 1) rfl htk _ rfl _ rfl _ rfl).mono ?_
      rintro e w' ⟨v, pv', rfl, hT, hrow', hsl', hgr⟩
      refine ⟨v, _, rfl, hT, ?_, ⟨pv', ?_, ?_⟩, hgr⟩
      · show _ = _
        rw [Lk.take1] at htd
        cases l
        · simp at htd ⊢
          exact htd.1
        · simp at htd ⊢
          exact htd.1
      · rw [hdone, htook]
        have : Lk.pend (Lk.got A ⟨n, ⟨t, l⟩, k⟩) B = if l then [] else Lk.pend A B ++ t := by
          rw [Lk.take1] at htd
          cases l
          · simp at htd ⊢
            exact htd.2
          · simp at htd ⊢
            exact htd.2
        rw [this]
        exact hrow'
      · rw [hall, hdone]
        exact hsl'
    · have htd := Lk.told_not (A := A) (B := B) (p := ⟨n, ⟨t, l⟩, k⟩) htk
      rw [if_neg htk] at htook
      refine (recv_conf c hc n k t l hn (by omega) hg2 s hs hsz eb pv (A.all.drop (A.done + 1)) (A.done + 1) A.took (by omega) (by omega) (Lk.pend A B) hpl' ρ τ hρ w hrow _ hsl hk (A.done + 1 + 1) rfl htk).mono ?_
      rintro e w' ⟨pv', rfl, hrow', hsl', hgr⟩
      refine ⟨_, none, rfl, rfl, ?_, ⟨pv', ?_, ?_⟩, hgr⟩
      · show _ = _
        rw [htd.1]; simp
      · rw [hdone, htook, htd.2]
        exact hrow'
      · rw [hall, hdone]
        exact hsl'
  · rw [if_neg hcf] at hdone
    have hcf' : ¬ (A.all.drop A.done ≠ [] ∧ k = A.done + 1) := by
      intro ⟨h1, h2⟩
      refine hcf ⟨?_, h2⟩
      rcases Nat.lt_or_ge A.done A.all.length with h | h
      · exact h
      · exact absurd (List.drop_of_length_le h) h1
    by_cases htk : n = A.took + 1
    · have htd := Lk.told_got (p := ⟨n, ⟨t, l⟩, k⟩) hg htk
      rw [if_pos htk] at htook
      refine (recv_keep_take c hc n k t l hn (by omega) hg2 s hs hsz eb pv (A.all.drop A.done) (A.done + 1) A.took (by omega) (by omega) (Lk.pend A B) hpl' ρ τ hρ w hrow hsl hcf' htk _ rfl _ rfl _ rfl).mono ?_
      rintro e w' ⟨v, rfl, hT, hrow', hgr⟩
      refine ⟨v, _, rfl, hT, ?_, ⟨pv, ?_, ?_⟩, hgr⟩
      · show _ = _
        rw [Lk.take1] at htd
        cases l
        · simp at htd ⊢
          exact htd.1
        · simp at htd ⊢
          exact htd.1
      · rw [hdone, htook]
        have : Lk.pend (Lk.got A ⟨n, ⟨t, l⟩, k⟩) B = if l then [] else Lk.pend A B ++ t := by
          rw [Lk.take1] at htd
          cases l
          · simp at htd ⊢
            exact htd.2
          · simp at htd ⊢
            exact htd.2
        rw [this]
        exact hrow'
      · rw [hall, hdone]
        exact sl_grown hsl hgr hρ
    · have htd := Lk.told_not (A := A) (B := B) (p := ⟨n, ⟨t, l⟩, k⟩) htk
      rw [if_neg htk] at htook
      refine (recv_keep c hc n k t l hn (by omega) hg2 s hs hsz eb pv (A.all.drop A.done) (A.done + 1) A.took (by omega) (by omega) (Lk.pend A B) hpl' ρ τ hρ w hrow hsl hcf' htk).mono ?_
      rintro e w' ⟨rfl, hrow', hgr⟩
      refine ⟨_, none, rfl, rfl, ?_, ⟨pv, ?_, ?_⟩, hgr⟩
      · show _ = _
        rw [htd.1]; simp
      · rw [hdone, htook, htd.2]
        exact hrow'
      · rw [hall, hdone]
        exact sl_grown hsl hgr hρ
end Go.Proofs.Ytominjooffecnaa.WLk
