/- What an end makes of a packet that comes (layer 24). -/
import Derived.Test.YtominjooffecnaaWLkT
namespace Go.Proofs.Ytominjooffecnaa.WLk
open Go.RowKit Kn

set_option maxRecDepth 100000 in
set_option maxHeartbeats 2000000 in
theorem recv_bad (s : ByteArray) (x : Nat) (hx : x = 2 ∨ x = 5) (hs : Crc.openN s.data.toList = ([], x)) (hsz : s.size ≤ 1000) (eb : Nat) (w : World) :
    Calls Try.prog 60 #[.pointer (some ⟨eb, 0, none⟩), .string s] w fun e w' => e = .returned (.tuple #[.slice none 0 0, .bool false]) ∧ Below w.heap.size w w' := by
  have HO := Lib.hid hs
  clear hs
  go_enter Try.func60, Try.ntmps60
  go_wp2_with fail
  refine (read_bad s x hx HO.out hsz _).mono ?_
  rintro e w1 ⟨rfl, hb1⟩
  go_wp2
  go_region
  all_goals
    go_wp2
    go_ret2
    exact ⟨rfl, by first | exact balloc hb1 _ | exact (balloc hb1 _).drew⟩

theorem grown_trans {a b c : World} {r : Option Nat} (h : a.grownBy b r) (k : b.grownBy c r) : a.grownBy c r :=
  ⟨k.os.trans h.os, k.tape.trans h.tape, k.output.trans h.output, Nat.le_trans h.size k.size, fun i hi hne => (k.block i (Nat.lt_of_lt_of_le hi h.size) hne).trans (h.block i hi hne)⟩
theorem told_up {w w1 w2 : World} {v : Value} {o : Option (List UInt8)} (h : Told w1 w2 v o) (hs : w.heap.size ≤ w1.heap.size) : Told w w2 v o := by
  cases o with
  | none => exact h
  | some m =>
    obtain ⟨g, h1, h2, h3⟩ := h
    exact ⟨g, h1, by omega, h3⟩

set_option maxRecDepth 100000 in
set_option maxHeartbeats 4000000 in
theorem recv_keep (c : Nat) (hc : c < 18446744073709551616) (n k : Nat) (t : List UInt8) (l : Bool) (hpn : n < 1000000) (hpk : k < 1000000) (hpt : t.length ≤ 200) (s : ByteArray) (hs : s.data.toList = bytesN c ⟨n, ⟨t, l⟩, k⟩) (hsz : s.size ≤ 1000)
    (eb : Nat) (pv : Value) (L : List Lk.Part) (num took : Nat) (_hnum : num < 1000000) (htk : took < 1000000) (x : List UInt8) (_hx : x.length ≤ 1000000) (ρ : Nat → Nat) (τ : Nat) (_hρ : ρ eb ≠ τ) (w : World)
    (hrow : w.heap[eb]? = some (.cells #[.int .u64 c, pv, .int .u64 num, .int .u64 took, .string ⟨x.toArray⟩] 119 (0, 0))) (hsl : Sl w ρ τ 2 pv L.length (ptsV L)) (hcf : ¬ (L ≠ [] ∧ k = num)) (hn : n ≠ took + 1) :
    Calls Try.prog 60 #[.pointer (some ⟨eb, 0, none⟩), .string s] w fun e w' => e = .returned (.tuple #[.slice none 0 0, .bool true]) ∧ w'.heap[eb]? = some (.cells #[.int .u64 c, pv, .int .u64 num, .int .u64 took, .string ⟨x.toArray⟩] 119 (0, 0)) ∧ w.grownBy w' (some eb) := by
  have HS := Lib.hid hs
  clear hs
  have hlt := lt_of_block hrow
  have hne1 : IntKind.u64.wrap ((took : Int) + 1) = (took : Int) + 1 := by rw [IntKind.wrap_u64]; omega
  have hne2 : ((n : Int) == (took : Int) + 1) = false := by simp; omega
  obtain ⟨A, N, cap, HPV, hN⟩ : ∃ (A : Option Addr) (N cap : Nat), Hid (pv = .slice A N cap) ∧ (N = 0 ↔ L = []) := by
    obtain ⟨A, cap, h, _, _⟩ := hsl.form
    exact ⟨A, L.length, cap, h, List.length_eq_zero_iff⟩
  go_enter Try.func60, Try.ntmps60
  go_wp2_with fail
  refine (read_good c hc ⟨n, ⟨t, l⟩, k⟩ (by simp only; omega) (by simp only; omega) hpt s HS.out hsz _).mono ?_
  rintro e w1 ⟨rfl, hb1⟩
  have hrow1 := (hb1.block _ hlt).trans hrow
  have hlt1 := lt_of_block hrow1
  have c0 : w1.cell? ⟨eb, 0, none⟩ = some (.int .u64 c) := by rw [cell_of_row _ _ 0 _ _ _ hrow1]; rfl
  have c1 : w1.cell? ⟨eb, 1, none⟩ = some (.slice A N cap) := by rw [cell_of_row _ _ 1 _ _ _ hrow1, ← HPV.out]; rfl
  have c2 : w1.cell? ⟨eb, 2, none⟩ = some (.int .u64 num) := by rw [cell_of_row _ _ 2 _ _ _ hrow1]; rfl
  have c3 : w1.cell? ⟨eb, 3, none⟩ = some (.int .u64 took) := by rw [cell_of_row _ _ 3 _ _ _ hrow1]; rfl
  have f1 : w1.frozen? ⟨eb, 1, none⟩ = false := by simp [World.frozen?, hrow1]
  have f2 : w1.frozen? ⟨eb, 2, none⟩ = false := by simp [World.frozen?, hrow1]
  have HR1 := Lib.hid hrow1
  have hG := below_grown hb1 (grown_one (w := w1) eb)
  have hW1 := hb1.size
  have hww1 : w1.heap.size ≠ eb := by omega
  have hww2 : eb ≠ w1.heap.size := by omega
  clear hrow hsl hrow1 hb1
  by_cases hLe : N = 0
  · subst hLe
    clear hN hcf
    go_wp2
    go_region
    all_goals
      go_wp2
      go_region
      all_goals
        go_wp2
        go_region
        all_goals
          go_wp2
          go_ret2
          refine ⟨rfl, (heap_alloc_old _ _ hlt1).trans HR1.out, ?_⟩
          repeat first
            | exact grown_alloc hG _
            | refine grown_drew ?_
  · have hpos : 0 < N := by omega
    have hkn : ((k : Int) == (num : Int)) = false := by
      have : k ≠ num := fun e => hcf ⟨fun h => hLe (hN.2 h), e⟩
      simp; omega
    clear hcf hLe hN
    go_wp2
    go_region
    all_goals
      go_wp2
      go_region
      all_goals
        go_wp2
        go_region
        all_goals
          go_wp2
          go_ret2
          refine ⟨rfl, (heap_alloc_old _ _ hlt1).trans HR1.out, ?_⟩
          repeat first
            | exact grown_alloc hG _
            | refine grown_drew ?_

set_option maxRecDepth 100000 in
set_option maxHeartbeats 4000000 in
theorem recv_keep_take (c : Nat) (hc : c < 18446744073709551616) (n k : Nat) (t : List UInt8) (l : Bool) (hpn : n < 1000000) (hpk : k < 1000000) (hpt : t.length ≤ 200) (s : ByteArray) (hs : s.data.toList = bytesN c ⟨n, ⟨t, l⟩, k⟩) (hsz : s.size ≤ 1000)
    (eb : Nat) (pv : Value) (L : List Lk.Part) (num took : Nat) (_hnum : num < 1000000) (htk : took < 1000000) (x : List UInt8) (hx : x.length ≤ 1000000) (ρ : Nat → Nat) (τ : Nat) (_hρ : ρ eb ≠ τ) (w : World)
    (hrow : w.heap[eb]? = some (.cells #[.int .u64 c, pv, .int .u64 num, .int .u64 took, .string ⟨x.toArray⟩] 119 (0, 0))) (hsl : Sl w ρ τ 2 pv L.length (ptsV L)) (hcf : ¬ (L ≠ [] ∧ k = num)) (hn : n = took + 1) (o : Option (List UInt8)) (ho : o = if l then some (x ++ t) else none) (x' : List UInt8) (hx' : x' = if l then [] else x ++ t) (tk' : Nat) (htk' : tk' = took + 1) :
    Calls Try.prog 60 #[.pointer (some ⟨eb, 0, none⟩), .string s] w fun e w' => ∃ v, e = .returned (.tuple #[v, .bool true]) ∧ Told w w' v o ∧ w'.heap[eb]? = some (.cells #[.int .u64 c, pv, .int .u64 num, .int .u64 tk', .string ⟨x'.toArray⟩] 119 (0, 0)) ∧ w.grownBy w' (some eb) := by
  have HS := Lib.hid hs
  clear hs
  have hlt := lt_of_block hrow
  have hne1 : IntKind.u64.wrap ((took : Int) + 1) = (took : Int) + 1 := by rw [IntKind.wrap_u64]; omega
  have hne2 : ((n : Int) == (took : Int) + 1) = true := by simp; omega
  have HO := Lib.hid (And.intro ho (And.intro hx' htk'))
  clear ho hx' htk'
  obtain ⟨A, N, cap, HPV, hN⟩ : ∃ (A : Option Addr) (N cap : Nat), Hid (pv = .slice A N cap) ∧ (N = 0 ↔ L = []) := by
    obtain ⟨A, cap, h, _, _⟩ := hsl.form
    exact ⟨A, L.length, cap, h, List.length_eq_zero_iff⟩
  go_enter Try.func60, Try.ntmps60
  go_wp2_with fail
  refine (read_good c hc ⟨n, ⟨t, l⟩, k⟩ (by simp only; omega) (by simp only; omega) hpt s HS.out hsz _).mono ?_
  rintro e w1 ⟨rfl, hb1⟩
  have hrow1 := (hb1.block _ hlt).trans hrow
  have hlt1 := lt_of_block hrow1
  have c0 : w1.cell? ⟨eb, 0, none⟩ = some (.int .u64 c) := by rw [cell_of_row _ _ 0 _ _ _ hrow1]; rfl
  have c1 : w1.cell? ⟨eb, 1, none⟩ = some (.slice A N cap) := by rw [cell_of_row _ _ 1 _ _ _ hrow1, ← HPV.out]; rfl
  have c2 : w1.cell? ⟨eb, 2, none⟩ = some (.int .u64 num) := by rw [cell_of_row _ _ 2 _ _ _ hrow1]; rfl
  have c3 : w1.cell? ⟨eb, 3, none⟩ = some (.int .u64 took) := by rw [cell_of_row _ _ 3 _ _ _ hrow1]; rfl
  have f1 : w1.frozen? ⟨eb, 1, none⟩ = false := by simp [World.frozen?, hrow1]
  have f2 : w1.frozen? ⟨eb, 2, none⟩ = false := by simp [World.frozen?, hrow1]
  have HR1 := Lib.hid hrow1
  have hG := below_grown hb1 (grown_one (w := w1) eb)
  have hW1 := hb1.size
  have hww1 : w1.heap.size ≠ eb := by omega
  have hww2 : eb ≠ w1.heap.size := by omega
  clear hrow hsl hrow1 hb1
  by_cases hLe : N = 0
  · subst hLe
    clear hN hcf
    go_wp2
    go_region
    all_goals
      go_wp2
      go_region
      all_goals
        go_wp2
        go_region
        all_goals
          go_wp2_with fail
          refine (take_any _ _ _ took htk x t l hx hpt eb _ (by exact (heap_alloc_old _ _ hlt1).trans HR1.out)).mono ?_
          rintro e w2 ⟨v, rfl, hT, hrow2, hG2⟩
          rw [← HO.out.1] at hT
          rw [← HO.out.2.1, ← HO.out.2.2] at hrow2
          have HF := Lib.hid (And.intro hT (And.intro hrow2 hG2))
          clear hT hrow2 hG2
          go_wp2
          go_ret2
          refine ⟨_, rfl, told_up HF.out.1 (by show w.heap.size ≤ (w1.alloc _).heap.size; simp; omega), HF.out.2.1, ?_⟩
          refine grown_trans ?_ HF.out.2.2
          repeat first
            | exact grown_alloc hG _
            | refine grown_drew ?_
  · have hpos : 0 < N := by omega
    have hkn : ((k : Int) == (num : Int)) = false := by
      have : k ≠ num := fun e => hcf ⟨fun h => hLe (hN.2 h), e⟩
      simp; omega
    clear hcf hLe hN
    go_wp2
    go_region
    all_goals
      go_wp2
      go_region
      all_goals
        go_wp2
        go_region
        all_goals
          go_wp2_with fail
          refine (take_any _ _ _ took htk x t l hx hpt eb _ (by exact (heap_alloc_old _ _ hlt1).trans HR1.out)).mono ?_
          rintro e w2 ⟨v, rfl, hT, hrow2, hG2⟩
          rw [← HO.out.1] at hT
          rw [← HO.out.2.1, ← HO.out.2.2] at hrow2
          have HF := Lib.hid (And.intro hT (And.intro hrow2 hG2))
          clear hT hrow2 hG2
          go_wp2
          go_ret2
          refine ⟨_, rfl, told_up HF.out.1 (by show w.heap.size ≤ (w1.alloc _).heap.size; simp; omega), HF.out.2.1, ?_⟩
          refine grown_trans ?_ HF.out.2.2
          repeat first
            | exact grown_alloc hG _
            | refine grown_drew ?_

end Go.Proofs.Ytominjooffecnaa.WLk
