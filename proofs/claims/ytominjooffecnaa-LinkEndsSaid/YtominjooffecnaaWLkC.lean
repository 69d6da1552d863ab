/- What an end makes of a packet that confirms (layer 24). -/
import Derived.Test.YtominjooffecnaaWLkV
namespace Go.Proofs.Ytominjooffecnaa.WLk
open Go.RowKit Kn

theorem _root_.Go.Proofs.Ytominjooffecnaa.Sl.setCell {w : World} {ρ : Nat → Nat} {τ size n : Nat} {v : Value} {xs : List Value} (h : Sl w ρ τ size v n xs) {b : Nat} (hb : ρ b ≠ τ) (i : Nat) (u : Value) : Sl (w.setCell ⟨b, i, none⟩ u) ρ τ size v n xs :=
  h.keep (fun k _ hk => Below.heap_setCell _ _ _ _ (fun e => hb (by rw [← hk, e]))) (by simp) (Xt.refl _ _)
theorem sl_grown {w w' : World} {ρ : Nat → Nat} {τ size n b : Nat} {v : Value} {xs : List Value} (h : Sl w ρ τ size v n xs) (hg : w.grownBy w' (some b)) (hb : ρ b ≠ τ) : Sl w' ρ τ size v n xs :=
  h.keep (fun k hk e => hg.block k hk (fun e2 => hb (by rw [← e]; injection e2 with e2; rw [e2]))) hg.size (Xt.refl _ _)
theorem sl_tail {w : World} {ρ : Nat → Nat} {τ g off N cap : Nat} {q : Lk.Part} {L : List Lk.Part} (h : Sl w ρ τ 2 (.slice (some ⟨g, off, none⟩) N cap) (q :: L).length (ptsV (q :: L))) (hN : N = L.length + 1) :
    Sl w ρ τ 2 (.slice (some ⟨g, off + 2, none⟩) (N - 1) (cap - 1)) L.length (ptsV L) := by
  refine ⟨ptsV_length L, ?_⟩
  rcases h.2 with ⟨_, h0⟩ | ⟨g', off', cap', hv, hρ, h1, h2, hg, hc, hf⟩
  · cases h0
  · injection hv with e1 e2 e3
    injection e1 with e1
    injection e1 with e1 e4
    subst e1 e3 e4
    refine .inr ⟨g, off + 2, cap - 1, by rw [hN, Nat.add_sub_cancel], hρ, by simp at h1; omega, by omega, hg, fun j u hu => ?_, fun j hj => ?_⟩
    · have := hc (j + 2) u (by rw [show ptsV (q :: L) = [.string ⟨q.text.toArray⟩, .bool q.last] ++ ptsV L from rfl]; simpa using hu)
      rw [show off + 2 + j = off + (j + 2) from by omega]
      exact this
    · rw [show off + 2 + j = off + (j + 2) from by omega]
      exact hf (j + 2) (by omega)
theorem sl_tail1 {w : World} {ρ : Nat → Nat} {τ g off N cap : Nat} {q : Lk.Part} {L : List Lk.Part} (h : Sl w ρ τ 2 (.slice (some ⟨g, off, none⟩) N cap) (q :: L).length (ptsV (q :: L))) (hN : N = L.length + 1) (hc1 : cap = 1) :
    Sl w ρ τ 2 (.slice (some ⟨g, off, none⟩) (N - 1) (cap - 1)) L.length (ptsV L) := by
  refine ⟨ptsV_length L, ?_⟩
  rcases h.2 with ⟨_, h0⟩ | ⟨g', off', cap', hv, hρ, h1, h2, hg, hc, hf⟩
  · cases h0
  · injection hv with e1 e2 e3
    injection e1 with e1
    injection e1 with e1 e4
    subst e1 e3 e4
    have hL : L = [] := List.eq_nil_of_length_eq_zero (by simp at h1; omega)
    subst hL
    refine .inr ⟨g, off, cap - 1, by rw [hN]; rfl, hρ, by simp, by omega, hg, fun j u hu => by simp [ptsV] at hu, fun j hj => by omega⟩

set_option maxRecDepth 100000 in
set_option maxHeartbeats 4000000 in
theorem recv_conf (c : Nat) (hc : c < 18446744073709551616) (n k : Nat) (t : List UInt8) (l : Bool) (hpn : n < 1000000) (hpk : k < 1000000) (hpt : t.length ≤ 200) (s : ByteArray) (hs : s.data.toList = bytesN c ⟨n, ⟨t, l⟩, k⟩) (hsz : s.size ≤ 1000)
    (eb : Nat) (pv : Value) (L : List Lk.Part) (num took : Nat) (hnum : num < 1000000) (htk : took < 1000000) (x : List UInt8) (_hx : x.length ≤ 1000000) (ρ : Nat → Nat) (τ : Nat) (hρ : ρ eb ≠ τ) (w : World)
    (hrow : w.heap[eb]? = some (.cells #[.int .u64 c, pv, .int .u64 num, .int .u64 took, .string ⟨x.toArray⟩] 119 (0, 0))) (q : Lk.Part) (hq : Sl w ρ τ 2 pv (q :: L).length (ptsV (q :: L))) (hkn : k = num) (num' : Nat) (hnum' : num' = num + 1) (hn : n ≠ took + 1) :
    Calls Try.prog 60 #[.pointer (some ⟨eb, 0, none⟩), .string s] w fun e w' => ∃ pv', e = .returned (.tuple #[.slice none 0 0, .bool true]) ∧ w'.heap[eb]? = some (.cells #[.int .u64 c, pv', .int .u64 num', .int .u64 took, .string ⟨x.toArray⟩] 119 (0, 0)) ∧ Sl w' ρ τ 2 pv' L.length (ptsV L) ∧ w.grownBy w' (some eb) := by
  have HS := Lib.hid hs
  clear hs
  have hlt := lt_of_block hrow
  have hne1 : IntKind.u64.wrap ((took : Int) + 1) = (took : Int) + 1 := by rw [IntKind.wrap_u64]; omega
  have hne2 : ((n : Int) == (took : Int) + 1) = false := by simp; omega
  obtain ⟨g, off, N, cap, HPV, hN, hNc, hcm⟩ : ∃ (g off N cap : Nat), Hid (pv = .slice (some ⟨g, off, none⟩) N cap) ∧ N = L.length + 1 ∧ N ≤ cap ∧ cap ≤ 9223372036854775807 := by
    rcases hq.2 with ⟨_, h0⟩ | ⟨g, off, cap, h, _, h1, h2, _⟩
    · cases h0
    · exact ⟨g, off, _, cap, h, rfl, h1, h2⟩
  have HNUM := Lib.hid hnum'
  have HN := Lib.hid hN
  have hpos : 0 < N := by omega
  have hpos1 : (1 : Int) ≤ (N : Int) := by omega
  have hpos2 : (1 : Int) ≤ (cap : Int) := by omega
  have hwn : IntKind.u64.wrap ((num : Int) + 1) = (num : Int) + 1 := by rw [IntKind.wrap_u64]; omega
  have hkb : ((k : Int) == (num : Int)) = true := by simp; omega
  clear hN hnum' hkn
  go_enter Try.func60, Try.ntmps60
  go_wp2_with fail
  refine (read_good c hc ⟨n, ⟨t, l⟩, k⟩ (by simp only; omega) (by simp only; omega) hpt s HS.out hsz _).mono ?_
  rintro e w1 ⟨rfl, hb1⟩
  have hrow1 := (hb1.block _ hlt).trans hrow
  have hlt1 := lt_of_block hrow1
  have c0 : w1.cell? ⟨eb, 0, none⟩ = some (.int .u64 c) := by rw [cell_of_row _ _ 0 _ _ _ hrow1]; rfl
  have c1 : w1.cell? ⟨eb, 1, none⟩ = some (.slice (some ⟨g, off, none⟩) N cap) := by rw [cell_of_row _ _ 1 _ _ _ hrow1, ← HPV.out]; rfl
  have c2 : w1.cell? ⟨eb, 2, none⟩ = some (.int .u64 num) := by rw [cell_of_row _ _ 2 _ _ _ hrow1]; rfl
  have c3 : w1.cell? ⟨eb, 3, none⟩ = some (.int .u64 took) := by rw [cell_of_row _ _ 3 _ _ _ hrow1]; rfl
  have f1 : w1.frozen? ⟨eb, 1, none⟩ = false := by simp [World.frozen?, hrow1]
  have f2 : w1.frozen? ⟨eb, 2, none⟩ = false := by simp [World.frozen?, hrow1]
  have HR1 := Lib.hid hrow1
  have hG := below_grown hb1 (grown_one (w := w1) eb)
  have hW1 := hb1.size
  have hww1 : w1.heap.size ≠ eb := by omega
  have hww2 : eb ≠ w1.heap.size := by omega
  have hsl1 := hq.below hb1
  clear hrow hrow1 hb1
  rw [HPV.out] at hsl1
  have HT1 := Lib.hid (sl_tail hsl1 HN.out)
  have HT2 : Hid (cap = 1 → Sl w1 ρ τ 2 (.slice (some ⟨g, off, none⟩) (N - 1) 0) L.length (ptsV L)) := fun e => by
    have := sl_tail1 hsl1 HN.out e
    rw [e] at this
    exact this
  have HNE : Hid ((num' : Int) = (num : Int) + 1) := by show _ = _; rw [HNUM.out]; rfl
  have HS2 : ∀ (W : World) (a : Addr) (u : Value), (W.setCell a u).heap.size = W.heap.size := fun W a u => by simp
  clear hsl1 hq
  go_wp2
  go_region
  all_goals
    go_wp2
    go_region
    all_goals
      go_wp2
      all_goals
        go_region
        all_goals
          go_wp2
          go_ret2
          rw [HNE.out]
          refine ⟨_, rfl, (heap_alloc_old _ _ (by rw [HS2, HS2]; exact hlt1)).trans (heap_setCell_same _ eb 2 _ _ _ (heap_setCell_same w1 eb 1 _ _ _ HR1.out)), ?_, ?_⟩
          · repeat refine Sl.drew ?_
            refine Sl.alloc (Sl.setCell (Sl.setCell ?_ hρ 1 _) hρ 2 _) _
            first | exact HT1.out | exact HT2.out rfl | exact HT2.out (by assumption)
          · repeat first
              | exact grown_alloc (grown_set (grown_set hG 1 _) 2 _) _
              | refine grown_drew ?_
set_option maxRecDepth 100000 in
set_option maxHeartbeats 4000000 in
theorem recv_conf_take (c : Nat) (hc : c < 18446744073709551616) (n k : Nat) (t : List UInt8) (l : Bool) (hpn : n < 1000000) (hpk : k < 1000000) (hpt : t.length ≤ 200) (s : ByteArray) (hs : s.data.toList = bytesN c ⟨n, ⟨t, l⟩, k⟩) (hsz : s.size ≤ 1000)
    (eb : Nat) (pv : Value) (L : List Lk.Part) (num took : Nat) (hnum : num < 1000000) (htk : took < 1000000) (x : List UInt8) (hx : x.length ≤ 1000000) (ρ : Nat → Nat) (τ : Nat) (hρ : ρ eb ≠ τ) (w : World)
    (hrow : w.heap[eb]? = some (.cells #[.int .u64 c, pv, .int .u64 num, .int .u64 took, .string ⟨x.toArray⟩] 119 (0, 0))) (q : Lk.Part) (hq : Sl w ρ τ 2 pv (q :: L).length (ptsV (q :: L))) (hkn : k = num) (num' : Nat) (hnum' : num' = num + 1) (hn : n = took + 1) (o : Option (List UInt8)) (ho : o = if l then some (x ++ t) else none) (x' : List UInt8) (hx' : x' = if l then [] else x ++ t) (tk' : Nat) (htk' : tk' = took + 1) :
    Calls Try.prog 60 #[.pointer (some ⟨eb, 0, none⟩), .string s] w fun e w' => ∃ v pv', e = .returned (.tuple #[v, .bool true]) ∧ Told w w' v o ∧ w'.heap[eb]? = some (.cells #[.int .u64 c, pv', .int .u64 num', .int .u64 tk', .string ⟨x'.toArray⟩] 119 (0, 0)) ∧ Sl w' ρ τ 2 pv' L.length (ptsV L) ∧ w.grownBy w' (some eb) := by
  have HS := Lib.hid hs
  clear hs
  have hlt := lt_of_block hrow
  have hne1 : IntKind.u64.wrap ((took : Int) + 1) = (took : Int) + 1 := by rw [IntKind.wrap_u64]; omega
  have hne2 : ((n : Int) == (took : Int) + 1) = true := by simp; omega
  have HO := Lib.hid (And.intro ho (And.intro hx' htk'))
  clear ho hx' htk'
  obtain ⟨g, off, N, cap, HPV, hN, hNc, hcm⟩ : ∃ (g off N cap : Nat), Hid (pv = .slice (some ⟨g, off, none⟩) N cap) ∧ N = L.length + 1 ∧ N ≤ cap ∧ cap ≤ 9223372036854775807 := by
    rcases hq.2 with ⟨_, h0⟩ | ⟨g, off, cap, h, _, h1, h2, _⟩
    · cases h0
    · exact ⟨g, off, _, cap, h, rfl, h1, h2⟩
  have HNUM := Lib.hid hnum'
  have HN := Lib.hid hN
  have hpos : 0 < N := by omega
  have hpos1 : (1 : Int) ≤ (N : Int) := by omega
  have hpos2 : (1 : Int) ≤ (cap : Int) := by omega
  have hwn : IntKind.u64.wrap ((num : Int) + 1) = (num : Int) + 1 := by rw [IntKind.wrap_u64]; omega
  have hkb : ((k : Int) == (num : Int)) = true := by simp; omega
  clear hN hnum' hkn
  go_enter Try.func60, Try.ntmps60
  go_wp2_with fail
  refine (read_good c hc ⟨n, ⟨t, l⟩, k⟩ (by simp only; omega) (by simp only; omega) hpt s HS.out hsz _).mono ?_
  rintro e w1 ⟨rfl, hb1⟩
  have hrow1 := (hb1.block _ hlt).trans hrow
  have hlt1 := lt_of_block hrow1
  have c0 : w1.cell? ⟨eb, 0, none⟩ = some (.int .u64 c) := by rw [cell_of_row _ _ 0 _ _ _ hrow1]; rfl
  have c1 : w1.cell? ⟨eb, 1, none⟩ = some (.slice (some ⟨g, off, none⟩) N cap) := by rw [cell_of_row _ _ 1 _ _ _ hrow1, ← HPV.out]; rfl
  have c2 : w1.cell? ⟨eb, 2, none⟩ = some (.int .u64 num) := by rw [cell_of_row _ _ 2 _ _ _ hrow1]; rfl
  have c3 : w1.cell? ⟨eb, 3, none⟩ = some (.int .u64 took) := by rw [cell_of_row _ _ 3 _ _ _ hrow1]; rfl
  have f1 : w1.frozen? ⟨eb, 1, none⟩ = false := by simp [World.frozen?, hrow1]
  have f2 : w1.frozen? ⟨eb, 2, none⟩ = false := by simp [World.frozen?, hrow1]
  have HR1 := Lib.hid hrow1
  have hG := below_grown hb1 (grown_one (w := w1) eb)
  have hW1 := hb1.size
  have hww1 : w1.heap.size ≠ eb := by omega
  have hww2 : eb ≠ w1.heap.size := by omega
  have hsl1 := hq.below hb1
  clear hrow hrow1 hb1
  rw [HPV.out] at hsl1
  have HT1 := Lib.hid (sl_tail hsl1 HN.out)
  have HT2 : Hid (cap = 1 → Sl w1 ρ τ 2 (.slice (some ⟨g, off, none⟩) (N - 1) 0) L.length (ptsV L)) := fun e => by
    have := sl_tail1 hsl1 HN.out e
    rw [e] at this
    exact this
  have HNE : Hid ((num' : Int) = (num : Int) + 1) := by show _ = _; rw [HNUM.out]; rfl
  have HS2 : ∀ (W : World) (a : Addr) (u : Value), (W.setCell a u).heap.size = W.heap.size := fun W a u => by simp
  clear hsl1 hq
  go_wp2
  go_region
  all_goals
    go_wp2
    go_region
    all_goals
      go_wp2
      all_goals
        go_region
        all_goals
          go_wp2_with fail
          refine (take_any (.int .u64 c) _ (.int .u64 ((num : Int) + 1)) took htk x t l hx hpt eb _ (by exact (heap_alloc_old _ _ (by rw [HS2, HS2]; exact hlt1)).trans (heap_setCell_same _ eb 2 _ _ _ (heap_setCell_same w1 eb 1 _ _ _ HR1.out)))).mono ?_
          rintro e w2 ⟨v, rfl, hT, hrow2, hG2⟩
          rw [← HO.out.1] at hT
          rw [← HO.out.2.1, ← HO.out.2.2, ← HNE.out] at hrow2
          have HF := Lib.hid (And.intro hT (And.intro hrow2 hG2))
          clear hT hrow2 hG2
          go_wp2
          go_ret2
          refine ⟨_, _, rfl, told_up HF.out.1 (by show w.heap.size ≤ (World.alloc _ _).heap.size; simp; omega), HF.out.2.1, ?_, ?_⟩
          · refine sl_grown ?_ HF.out.2.2 hρ
            repeat refine Sl.drew ?_
            refine Sl.alloc (Sl.setCell (Sl.setCell ?_ hρ 1 _) hρ 2 _) _
            first | exact HT1.out | exact HT2.out rfl | exact HT2.out (by assumption)
          · refine grown_trans ?_ HF.out.2.2
            repeat first
              | exact grown_alloc (grown_set (grown_set hG 1 _) 2 _) _
              | refine grown_drew ?_
end Go.Proofs.Ytominjooffecnaa.WLk
