/- New, Idle, Same, prefix; the rows of layer 24's examples. -/
import Derived.Test.YtominjooffecnaaWLkS
import Derived.Test.YtominjooffecnaaWLkE
import Derived.Lib.MinMax
namespace Go.Proofs.Ytominjooffecnaa.WLk
open Go.RowKit Kn

set_option maxRecDepth 100000 in
theorem new_any (n : Nat) (hn : n < 4294967296) (w : World) :
    Calls Try.prog 55 #[.int .u32 n] w fun e w' => e = .returned (.pointer (some ⟨w.heap.size, 0, none⟩)) ∧ w' = w.alloc (.cells #[.int .u64 n, .slice none 0 0, .int .u64 1, .int .u64 0, .string ⟨#[]⟩] 119) := by
  have hw : IntKind.u64.wrap (n : Int) = n := by rw [IntKind.wrap_u64]; omega
  go_enter Try.func55, Try.ntmps55
  go_wp2
  go_ret
  exact ⟨rfl, rfl⟩

set_option maxRecDepth 100000 in
theorem idle_any (c0 pv c2 c3 c4 : Value) (L : List Lk.Part) (ρ : Nat → Nat) (τ eb : Nat) (w : World) (hrow : w.heap[eb]? = some (.cells #[c0, pv, c2, c3, c4] 119 (0, 0))) (hsl : Sl w ρ τ 2 pv L.length (ptsV L)) :
    Calls Try.prog 63 #[.pointer (some ⟨eb, 0, none⟩)] w fun e w' => e = .returned (.bool (decide (L.length = 0))) ∧ w' = w := by
  have c1 : w.cell? ⟨eb, 1, none⟩ = some pv := by rw [cell_of_row _ _ 1 _ _ _ hrow]; rfl
  obtain ⟨A, cap, rfl, _, _⟩ := hsl.form
  clear hsl hrow
  generalize L.length = N at *
  go_enter Try.func63, Try.ntmps63
  go_wp2
  all_goals
    go_ret
    refine ⟨?_, rfl⟩
  by_cases h : N = 0
  · subst h; rfl
  · have : ((N : Int) == 0) = false := by simp; omega
    simp [this, h]

/-- texts as values -/
def strsV (L : List (List UInt8)) : List Value := L.map fun s => .string ⟨s.toArray⟩
theorem strsV_length (L : List (List UInt8)) : (strsV L).length = L.length := by simp [strsV]

/-- a slice of texts reads as L -/
def Rd (w : World) (A : Option Addr) (L : List (List UInt8)) : Prop :=
  L = [] ∨ ∃ b off, A = some ⟨b, off, none⟩ ∧ ∀ i (h : i < L.length), w.cell? ⟨b, off + i, none⟩ = some (.string ⟨(L[i]).toArray⟩)
theorem rd_sl {w : World} {ρ : Nat → Nat} {τ n c : Nat} {A : Option Addr} {L : List (List UInt8)} (h : Sl w ρ τ 1 (.slice A n c) n (strsV L)) : n = L.length ∧ Rd w A L := by
  have hn : n = L.length := by have := h.1; rw [strsV_length] at this; omega
  refine ⟨hn, ?_⟩
  rcases h.2 with ⟨_, h0⟩ | ⟨g, off, cap, hv, _, _, _, _, hc, _⟩
  · left
    exact List.eq_nil_of_length_eq_zero (by omega)
  · injection hv with e1 e2 e3
    refine .inr ⟨g, off, e1, fun i hi => hc i _ ?_⟩
    rw [strsV, List.getElem?_map, List.getElem?_eq_getElem hi]
    rfl

set_option maxRecDepth 100000 in
set_option maxHeartbeats 2000000 in
theorem same_eq (A1 A2 : Option Addr) (c1 c2 : Nat) (L : List (List UInt8)) (h1 : L.length ≤ c1) (hm1 : c1 ≤ 9223372036854775807) (w : World) (p1 : Rd w A1 L) (p2 : Rd w A2 L) :
    Calls Try.prog 62 #[.slice A1 L.length c1, .slice A2 L.length c2] w fun e w' => e = .returned (.bool true) ∧ Below w.heap.size w w' := by
  go_enter Try.func62, Try.ntmps62
  go_wp2
  go_loopw [5] (fun iv wr => ∃ k n : Nat, iv = .int .i64 k ∧ k ≤ L.length ∧ wr = w.drewN n) (fun iv _ => L.length - (intOf iv).toNat)
  case atStart => exact ⟨0, 0, rfl, Nat.zero_le _, rfl⟩
  case round =>
    obtain ⟨k, n, rfl, hk, rfl⟩ := hrel
    have hk0 : (0 : Int) ≤ (k : Int) := by omega
    by_cases hlt : k < L.length
    · rcases p1 with h0 | ⟨b1, o1, rfl, q1⟩
      · rw [h0] at hlt; simp at hlt
      rcases p2 with h0 | ⟨b2, o2, rfl, q2⟩
      · rw [h0] at hlt; simp at hlt
      have hlt' : (k : Int) < (L.length : Int) := by omega
      have e1 : w.cell? ⟨b1, o1 + k, none⟩ = some (.string ⟨(L[k]).toArray⟩) := q1 k hlt
      have e2 : w.cell? ⟨b2, o2 + k, none⟩ = some (.string ⟨(L[k]).toArray⟩) := q2 k hlt
      clear q1 q2
      generalize L[k] = l at *
      go_wp2
      go_region
      all_goals
        go_wp2
        go_roundw
        case rel => exact ⟨k + 1, n + 1, by go_num, by omega, rfl⟩
        case measure => simp [intOf]; omega
    · obtain rfl : k = L.length := by omega
      go_wp2
      go_ret
      exact ⟨rfl, ⟨rfl, rfl, rfl, Nat.le_refl _, fun _ _ => rfl⟩⟩

set_option maxRecDepth 100000 in
set_option maxHeartbeats 2000000 in
theorem prefix_any (A1 A2 : Option Addr) (c1 c2 : Nat) (L M : List (List UInt8)) (hLM : L <+: M) (h1 : L.length ≤ c1) (hm1 : c1 ≤ 9223372036854775807) (h2 : M.length ≤ c2) (_hm2 : c2 ≤ 9223372036854775807) (w : World) (p1 : Rd w A1 L) (p2 : Rd w A2 M) :
    Calls Try.prog 58 #[.slice A1 L.length c1, .slice A2 M.length c2] w fun e w' => e = .returned (.bool true) ∧ Below w.heap.size w w' := by
  have hle : L.length ≤ M.length := hLM.length_le
  have hle' : (L.length : Int) ≤ (M.length : Int) := by omega
  have hle2 : (L.length : Int) ≤ (c2 : Int) := by omega
  have hmin : min (L.length : Int) (M.length : Int) = (L.length : Int) := by omega
  have p2' : Rd w A2 L := by
    rcases p2 with h | ⟨b, off, hA, hc⟩
    · left
      exact List.eq_nil_of_length_eq_zero (by rw [h] at hle; simpa using hle)
    · refine .inr ⟨b, off, hA, fun i hi => ?_⟩
      rw [hc i (by omega)]
      obtain ⟨t, rfl⟩ := hLM
      rw [List.getElem_append_left hi]
  have HP := Lib.hid (And.intro p1 p2')
  clear p1 p2 p2' hLM
  go_enter Try.func58, Try.ntmps58
  go_wp2_with fail
  refine (same_eq A1 A2 c1 c2 L h1 hm1 _ HP.out.1 HP.out.2).mono ?_
  rintro e w1 ⟨rfl, hb1⟩
  go_wp2
  go_ret
  exact ⟨rfl, hb1⟩

set_option maxRecDepth 100000 in
set_option maxHeartbeats 4000000 in
theorem knows_any (w : World) : Calls Try.prog 56 #[] w fun e w' => e = .returned (.bool true) ∧ Below w.heap.size w w' := by
  have HB : Hid (bytesN 7 ⟨1, ⟨[104, 105], true⟩, 0⟩ = Crc.seal_ [7, 1, 1, 2, 104, 105, 0]) := by
    show _ = _
    rw [bytesN, show raw 7 ⟨1, ⟨[104, 105], true⟩, 0⟩ = [7, 1, 1, 2, 104, 105, 0] by decide +kernel]
  have HP : Hid (Lk.parts (⟨#[104, 105]⟩ : ByteArray).data.toList = [⟨[104, 105], true⟩]) := Lk.parts_short (by decide)
  have HO : Hid (Crc.openN (⟨#[]⟩ : ByteArray).data.toList = ([], 2)) := by show _ = _; decide +kernel
  go_enter Try.func56, Try.ntmps56
  go_wp2_with fail
  refine (new_any 7 (by decide) _).mono ?_
  rintro e w1 ⟨rfl, hw1⟩
  have hB1 : Below w.heap.size w w1 := by rw [hw1]; exact balloc (Below.refl _ _) _
  have hrow1 : w1.heap[w.heap.size]? = some (.cells #[.int .u64 (7 : Nat), .slice none 0 0, .int .u64 1, .int .u64 0, .string ⟨#[]⟩] 119 (0, 0)) := by rw [hw1]; exact heap_alloc_new w _
  clear hw1
  go_wp2_with fail
  refine (send_any ⟨#[104, 105]⟩ (by decide) w.heap.size _ _ _ _ _ [] (by decide) (xt (fun _ => 100) w.heap.size 0) 1 (by rw [xt_new (Nat.le_refl _)]; decide) _ hrow1 (Sl.nil _ _ _ _)).mono ?_
  rintro e w2 ⟨pv, ρ2, rfl, hrow2, hsl2, hx2, hf2⟩
  rw [HP.out] at hsl2
  have hB2 : Below w.heap.size w w2 := ⟨hf2.os.trans hB1.os, hf2.tape.trans hB1.tape, hf2.output.trans hB1.output, Nat.le_trans hB1.size hf2.size, fun k hk => (hf2.block k (Nat.lt_of_lt_of_le hk hB1.size) (by rw [xt_old hk, xt_new (Nat.le_refl _)]; decide)).trans (hB1.block k hk)⟩
  clear hB1 hrow1 hf2
  go_wp2_with fail
  refine (recv_bad ⟨#[]⟩ 2 (.inl rfl) HO.out (by decide) w.heap.size _).mono ?_
  rintro e w3 ⟨rfl, hb3⟩
  have hrow3 := (hb3.block _ (lt_of_block hrow2)).trans hrow2
  have hsl3 := hsl2.below hb3
  have hB3 := bnext hB2 hb3
  clear hrow2 hsl2 hB2 hb3
  go_wp2_with fail
  refine (tick_any 7 (by decide) w.heap.size pv [⟨[104, 105], true⟩] 1 0 ⟨#[]⟩ ρ2 1 _ hrow3 hsl3 (by decide) (by decide) (by decide)).mono ?_
  rintro e w4 ⟨rfl, hb4⟩
  have hrow4 := (hb4.block _ (lt_of_block hrow3)).trans hrow3
  have hsl4 := hsl3.below hb4
  have hB4 := bnext hB3 hb4
  clear hrow3 hsl3 hB3 hb4
  rw [show tickL [⟨[104, 105], true⟩] 1 0 = ⟨1, ⟨[104, 105], true⟩, 0⟩ from rfl, HB.out]
  go_wp2_with fail
  refine (WCrcR.seal_any ⟨#[7, 1, 1, 2, 104, 105, 0]⟩ _ (by decide)).mono ?_
  rintro e w5 ⟨rfl, hb5⟩
  have hrow5 := (hb5.block _ (lt_of_block hrow4)).trans hrow4
  have hsl5 := hsl4.below hb5
  have hB5 := bnext hB4 hb5
  clear hrow4 hsl4 hB4 hb5
  rw [show (⟨#[7, 1, 1, 2, 104, 105, 0]⟩ : ByteArray).data.toList = [7, 1, 1, 2, 104, 105, 0] from rfl]
  generalize Crc.seal_ [7, 1, 1, 2, 104, 105, 0] = X
  go_wp2_with fail
  refine (idle_any _ _ _ _ _ _ ρ2 1 w.heap.size _ hrow5 hsl5).mono ?_
  rintro e w6 ⟨rfl, rfl⟩
  go_wp2
  go_ret
  exact ⟨rfl, hB5⟩
end Go.Proofs.Ytominjooffecnaa.WLk
