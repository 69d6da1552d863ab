/- The walk of the law LinkKeeps: what each end is told is what the other one sent, in order, from the first on. -/
import Derived.Test.YtominjooffecnaaWLkO
import Derived.Test.YtominjooffecnaaWLkF
namespace Go.Proofs.Ytominjooffecnaa.WLk
open Go.RowKit Kn

/-- tags at the start: B blocks of before, S the first end -/
def tag0 (B S : Nat) : Nat → Nat := fun k => if k < B then 100 else if k = S + 2 then 0 else if k = S then 1 else if k = S + 1 then 2 else 99

theorem net_start (W : World) (B S : Nat) (hBS : B ≤ S)
    (h0 : W.heap[S]? = some (.cells #[.int .u64 (3 : Nat), .slice none 0 0, .int .u64 1, .int .u64 0, .string ⟨#[]⟩] 119 (0, 0)))
    (h1 : W.heap[S + 1]? = some (.cells #[.int .u64 (3 : Nat), .slice none 0 0, .int .u64 1, .int .u64 0, .string ⟨#[]⟩] 119 (0, 0)))
    (h2 : W.heap[S + 2]? = some (.cells #[.pointer (some ⟨S, 0, none⟩), .pointer (some ⟨S + 1, 0, none⟩), .slice none 0 0, .slice none 0 0, .slice none 0 0, .slice none 0 0, .slice none 0 0, .slice none 0 0, .bool true] 93 (0, 0))) :
    ∃ C, Net W (tag0 B S) (S + 2) (fun k => S + k) C (fun _ => ⟨[], 0, 0⟩) (fun _ _ => []) 0 := by
  refine ⟨fun j => (#[Value.pointer (some ⟨S, 0, none⟩), .pointer (some ⟨S + 1, 0, none⟩), .slice none 0 0, .slice none 0 0, .slice none 0 0, .slice none 0 0, .slice none 0 0, .slice none 0 0, .bool true][j]?).getD (.bool false), ⟨?_, ?_, ?_, ?_, ?_, ?_⟩, rfl, fun _ _ => rfl, fun _ _ => rfl, fun _ _ => ?_, (fun k _ X hX => by cases hX), fun _ _ => ⟨Nat.le_refl _, Nat.le_refl _, Nat.le_refl _⟩⟩
  · rw [tag0, if_neg (by omega), if_pos rfl]
  · exact lt_of_block h2
  · intro j hj
    refine ⟨?_, by simp [World.frozen?, h2]⟩
    rw [cell_of_row _ _ j _ _ _ h2]
    match j, hj with
    | 0, _ => rfl
    | 1, _ => rfl
    | 2, _ => rfl
    | 3, _ => rfl
    | 4, _ => rfl
    | 5, _ => rfl
    | 6, _ => rfl
    | 7, _ => rfl
    | 8, _ => rfl
  · intro k hk
    match k, hk with
    | 0, _ => exact ⟨rfl, by rw [tag0, if_neg (by omega), if_neg (by omega), if_pos (by omega)]⟩
    | 1, _ => exact ⟨rfl, by rw [tag0, if_neg (by omega), if_neg (by omega), if_neg (by omega), if_pos rfl]⟩
  · intro k hk
    match k, hk with
    | 0, _ => exact ⟨_, h0, Sl.nil _ _ _ _⟩
    | 1, _ => exact ⟨_, h1, Sl.nil _ _ _ _⟩
  · intro i k hi hk
    match i, hi, k, hk with
    | 0, _, 0, _ => exact Sl.nil _ _ _ _
    | 0, _, 1, _ => exact Sl.nil _ _ _ _
    | 1, _, 0, _ => exact Sl.nil _ _ _ _
    | 1, _, 1, _ => exact Sl.nil _ _ _ _
    | 2, _, 0, _ => exact Sl.nil _ _ _ _
    | 2, _, 1, _ => exact Sl.nil _ _ _ _
  · exact ⟨Nat.le_refl _, Nat.le_succ _, Nat.le_refl _, Nat.le_refl _, Nat.le_succ _, Nat.le_refl _⟩

/-- two slices of texts, the first one's being the other one's first -/
def Pre2 (W : World) (A1 : Option Addr) (n1 c1 : Nat) (A2 : Option Addr) (n2 c2 : Nat) : Prop :=
  ∃ L M : Txts, L <+: M ∧ n1 = L.length ∧ n2 = M.length ∧ L.length ≤ c1 ∧ c1 ≤ 9223372036854775807 ∧ M.length ≤ c2 ∧ c2 ≤ 9223372036854775807 ∧ Rd W A1 L ∧ Rd W A2 M
theorem Rd.below {w w' : World} {A : Option Addr} {L : Txts} (h : Rd w A L) (hb : Below w.heap.size w w') : Rd w' A L := by
  rcases h with h | ⟨b, off, hA, hc⟩
  · exact .inl h
  · refine .inr ⟨b, off, hA, fun i hi => ?_⟩
    rw [hb.cell (World.block_lt_of_cell? w _ (hc i hi))]
    exact hc i hi
theorem Pre2.below {W W' : World} {A1 A2 : Option Addr} {n1 c1 n2 c2 : Nat} (h : Pre2 W A1 n1 c1 A2 n2 c2) (hb : Below W.heap.size W W') : Pre2 W' A1 n1 c1 A2 n2 c2 := by
  obtain ⟨L, M, h1, h2, h3, h4, h5, h6, h7, h8, h9⟩ := h
  exact ⟨L, M, h1, h2, h3, h4, h5, h6, h7, h8.below hb, h9.below hb⟩
theorem Pre2.call {W : World} {A1 A2 : Option Addr} {n1 c1 n2 c2 : Nat} (h : Pre2 W A1 n1 c1 A2 n2 c2) :
    Calls Try.prog 58 #[.slice A1 n1 c1, .slice A2 n2 c2] W fun e w' => e = .returned (.bool true) ∧ Below W.heap.size W w' := by
  obtain ⟨L, M, h1, rfl, rfl, h4, h5, h6, h7, h8, h9⟩ := h
  exact prefix_any A1 A2 c1 c2 L M h1 h4 h5 h6 h7 W h8 h9

/-- a slot of the net, as it is read -/
theorem Net.read {w : World} {ρ : Nat → Nat} {nb n : Nat} {e : Nat → Nat} {C : Nat → Value} {st : Nat → Lk.E} {L : Nat → Nat → Txts} (h : Net w ρ nb e C st L n) (i k : Nat) (hi : i < 3) (hk : k < 2) :
    ∃ A c, w.cell? ⟨nb, 2 + 2 * i + k, none⟩ = some (.slice A (L i k).length c) ∧ (L i k).length ≤ c ∧ c ≤ 9223372036854775807 ∧ Rd w A (L i k) ∧ C (2 + 2 * i + k) = .slice A (L i k).length c := by
  have hS := h.mem.slot i k hi hk
  obtain ⟨A, c, hv, h1, h2⟩ := hS.form
  unfold maxLen at h2
  have hc := (h.mem.cell (2 + 2 * i + k) (by omega)).1
  rw [hv] at hc hS
  exact ⟨A, c, hc, h1, h2, (rd_sl hS).2, hv⟩

theorem Net.read' {w : World} {ρ : Nat → Nat} {nb n : Nat} {e : Nat → Nat} {C : Nat → Value} {st : Nat → Lk.E} {L : Nat → Nat → Txts} (h : Net w ρ nb e C st L n) (i k : Nat) (hi : i < 3) (hk : k < 2) :
    ∃ A N c, w.cell? ⟨nb, 2 + 2 * i + k, none⟩ = some (.slice A N c) ∧ (N ≤ c ∧ c ≤ 9223372036854775807) ∧ N = (L i k).length ∧ Rd w A (L i k) := by
  obtain ⟨A, c, h1, h2, h3, h4, _⟩ := h.read i k hi hk
  exact ⟨A, _, c, h1, ⟨h2, h3⟩, rfl, h4⟩

set_option maxRecDepth 100000 in
set_option maxHeartbeats 4000000 in
theorem keeps (A : Option Addr) (cap : Nat) (L : List Stp) (w : World) (_hcap : L.length ≤ cap) (_hcm : cap ≤ 9223372036854775807) (hs : Sts w A L) (hok : ∀ i, (h : i < L.length) → StpOk L[i]) :
    Calls Try.prog 15 #[.slice A L.length cap] w fun e w' => e = .returned (.bool true) ∧ Below w.heap.size w w' := by
  have HOK := Lib.hid hok
  have HS := Lib.hid hs
  clear hok hs
  go_enter Try.func15, Try.ntmps15
  go_wp2_with fail
  refine (few_any A cap L _ HS.out HOK.out).mono ?_
  rintro e w1 ⟨⟨b, rfl, hfew⟩, hb1⟩
  go_wp2_with fail
  refine (new_any 3 (by decide) _).mono ?_
  rintro e w2 ⟨rfl, rfl⟩
  go_wp2_with fail
  refine (new_any 3 (by decide) _).mono ?_
  rintro e w3 ⟨rfl, hw3⟩
  have hs1 := hb1.size
  have hs3 : w3.heap.size = w1.heap.size + 2 := by rw [hw3]; simp
  have hB3 : Below w.heap.size w w3 := by rw [hw3]; exact balloc (balloc hb1 _) _
  have g0 : w3.heap[w1.heap.size]? = some (.cells #[.int .u64 (3 : Nat), .slice none 0 0, .int .u64 1, .int .u64 0, .string ⟨#[]⟩] 119 (0, 0)) := by
    rw [hw3, heap_alloc_old _ _ (by simp)]; exact heap_alloc_new _ _
  have g1 : w3.heap[w1.heap.size + 1]? = some (.cells #[.int .u64 (3 : Nat), .slice none 0 0, .int .u64 1, .int .u64 0, .string ⟨#[]⟩] 119 (0, 0)) := by
    have := heap_alloc_new (w1.alloc (.cells #[.int .u64 (3 : Nat), .slice none 0 0, .int .u64 1, .int .u64 0, .string ⟨#[]⟩] 119)) (.cells #[.int .u64 (3 : Nat), .slice none 0 0, .int .u64 1, .int .u64 0, .string ⟨#[]⟩] 119)
    rw [World.size_alloc] at this
    rw [hw3]; exact this
  clear hw3
  cases b
  · clear hfew g0 g1
    go_wp2_with fail
    refine (knows_any _).mono ?_
    rintro e w4 ⟨rfl, hb4⟩
    have hB4 := bnext (balloc hB3 _) hb4
    clear hb4
    go_wp2
    go_ret
    exact ⟨rfl, hB4⟩
  · have hf := hfew rfl
    clear hfew
    obtain ⟨hL80, hL7⟩ := hf
    have HL7 := Lib.hid hL7
    clear hL7
    obtain ⟨S, hS⟩ : ∃ S, w1.heap.size = S := ⟨_, rfl⟩
    rw [hS] at hs1 hs3 g0 g1
    obtain ⟨C0, hN0⟩ := net_start (w3.alloc (.cells #[.pointer (some ⟨S, 0, none⟩), .pointer (some ⟨S + 1, 0, none⟩), .slice none 0 0, .slice none 0 0, .slice none 0 0, .slice none 0 0, .slice none 0 0, .slice none 0 0, .bool true] 93)) w.heap.size S hs1
      ((heap_alloc_old _ _ (by omega)).trans g0) ((heap_alloc_old _ _ (by omega)).trans g1) (by rw [← hs3]; exact heap_alloc_new _ _)
    have HN0 := Lib.hid hN0
    have HB0 : Hid (Below w.heap.size w (w3.alloc (.cells #[.pointer (some ⟨S, 0, none⟩), .pointer (some ⟨S + 1, 0, none⟩), .slice none 0 0, .slice none 0 0, .slice none 0 0, .slice none 0 0, .slice none 0 0, .slice none 0 0, .bool true] 93)) ∧ ∀ k, k < w.heap.size → tag0 w.heap.size S k = 100) :=
      ⟨balloc hB3 _, fun k hk => by rw [tag0, if_pos hk]⟩
    clear hN0 g0 g1 hb1 hB3
    go_wp2
    go_loopw [5] (fun iv wr => ∃ (i : Nat) (ρ : Nat → Nat) (C : Nat → Value) (st : Nat → Lk.E) (LL : Nat → Nat → Txts), iv = .int .i64 i ∧ i ≤ L.length ∧ Hid (Net wr ρ (S + 2) (fun k => S + k) C st LL i) ∧ Hid (Below w.heap.size w wr ∧ ∀ k, k < w.heap.size → ρ k = 100)) (fun iv _ => L.length - (intOf iv).toNat)
    case atStart => exact ⟨0, _, _, _, _, rfl, Nat.zero_le _, HN0.out, HB0.out⟩
    case round =>
      clear HN0 HB0 hs3 hS
      obtain ⟨i, ρ, C, st, LL, rfl, hi, HN, HB⟩ := hrel
      have hi0 : (0 : Int) ≤ (i : Int) := by omega
      by_cases hlt : i < L.length
      · have hlt' : (i : Int) < (L.length : Int) := by omega
        rcases HS.out.below HB.out.1 with h0 | ⟨b, off, rfl, hbl, hc⟩
        · rw [h0] at hlt; simp at hlt
        have hat := hc i hlt
        have h7 := HL7.out i hlt
        have hk := HOK.out i hlt
        clear hc
        generalize L[i] = sp at hat h7 hk
        obtain ⟨a0, a1, a2, a3, a4, a5⟩ := hat
        obtain ⟨k0, k1, _, k3, k4, k5⟩ := hk
        go_wp2_with fail
        refine (step_any (S + 2) (fun k => S + k) C st LL i (by omega) ρ sp.what sp.to sp.at_ sp.byte sp.by_ ⟨sp.text.toArray⟩ _ HN.out k0 k1 k3 k4 k5 (by rw [size_mk]; exact h7)).mono ?_
        rintro e w5 ⟨rfl, ρ', C', st', L', hN', _, hx, hf⟩
        have HB5 : Hid (Below w.heap.size w w5 ∧ ∀ k, k < w.heap.size → ρ' k = 100) :=
          ⟨Fr.below HB.out.1 hf HB.out.1.size (fun k hk => by rw [HB.out.2 k hk]; decide), fun k hk => by rw [hx k (Nat.lt_of_lt_of_le hk HB.out.1.size)]; exact HB.out.2 k hk⟩
        clear HB HN hx hf a0 a1 a2 a3 a4 a5
        obtain ⟨A4, n4, m4, c4, l4, e4, r4⟩ := hN'.read' 1 0 (by decide) (by decide)
        obtain ⟨A5, n5, m5, c5, l5, e5, r5⟩ := hN'.read' 1 1 (by decide) (by decide)
        obtain ⟨A6, n6, m6, c6, l6, e6, r6⟩ := hN'.read' 2 0 (by decide) (by decide)
        obtain ⟨A7, n7, m7, c7, l7, e7, r7⟩ := hN'.read' 2 1 (by decide) (by decide)
        have P1 : Hid (Pre2 w5 A6 n6 m6 A5 n5 m5) := ⟨L' 2 0, L' 1 1, hN'.pre 0 (by decide), e6, e5, by omega, l6.2, by omega, l5.2, r6, r5⟩
        have P2 : Hid (Pre2 w5 A7 n7 m7 A4 n4 m4) := ⟨L' 2 1, L' 1 0, hN'.pre 1 (by decide), e7, e4, by omega, l7.2, by omega, l4.2, r7, r4⟩
        have c8 : w5.cell? ⟨S + 2, 8, none⟩ = some (.bool true) := by rw [← hN'.fine]; exact (hN'.mem.cell 8 (by decide)).1
        have hnb := hN'.mem.lt
        clear e4 e5 e6 e7 r4 r5 r6 r7
        have HC : Hid (∀ W A1 n1 c1 A2 n2 c2, Hid (Pre2 w5 A1 n1 c1 A2 n2 c2) → (W.cell? ⟨S + 2, 4, none⟩ = some (.slice A4 n4 m4) ∧ W.cell? ⟨S + 2, 5, none⟩ = some (.slice A5 n5 m5) ∧ W.cell? ⟨S + 2, 6, none⟩ = some (.slice A6 n6 m6) ∧ W.cell? ⟨S + 2, 7, none⟩ = some (.slice A7 n7 m7) ∧ W.cell? ⟨S + 2, 8, none⟩ = some (.bool true) ∧ Below w5.heap.size w5 W) →
            Calls Try.prog 58 #[.slice A1 n1 c1, .slice A2 n2 c2] W fun e w' => e = .returned (.bool true) ∧ Below W.heap.size W w') := fun W A1 n1 c1 A2 n2 c2 h1 h2 => (h1.out.below h2.2.2.2.2.2).call
        have HS0 : Hid (w5.drew.cell? ⟨S + 2, 4, none⟩ = some (.slice A4 n4 m4) ∧ w5.drew.cell? ⟨S + 2, 5, none⟩ = some (.slice A5 n5 m5) ∧ w5.drew.cell? ⟨S + 2, 6, none⟩ = some (.slice A6 n6 m6) ∧ w5.drew.cell? ⟨S + 2, 7, none⟩ = some (.slice A7 n7 m7) ∧ w5.drew.cell? ⟨S + 2, 8, none⟩ = some (.bool true) ∧ Below w5.heap.size w5 w5.drew) :=
          ⟨c4, c5, c6, c7, c8, (Below.refl _ _).drew⟩
        have HK : Hid (∀ w1 w2 : World, Below w1.heap.size w1 w2 → (w1.cell? ⟨S + 2, 4, none⟩ = some (.slice A4 n4 m4) ∧ w1.cell? ⟨S + 2, 5, none⟩ = some (.slice A5 n5 m5) ∧ w1.cell? ⟨S + 2, 6, none⟩ = some (.slice A6 n6 m6) ∧ w1.cell? ⟨S + 2, 7, none⟩ = some (.slice A7 n7 m7) ∧ w1.cell? ⟨S + 2, 8, none⟩ = some (.bool true) ∧ Below w5.heap.size w5 w1) →
            (w2.cell? ⟨S + 2, 4, none⟩ = some (.slice A4 n4 m4) ∧ w2.cell? ⟨S + 2, 5, none⟩ = some (.slice A5 n5 m5) ∧ w2.cell? ⟨S + 2, 6, none⟩ = some (.slice A6 n6 m6) ∧ w2.cell? ⟨S + 2, 7, none⟩ = some (.slice A7 n7 m7) ∧ w2.cell? ⟨S + 2, 8, none⟩ = some (.bool true) ∧ Below w5.heap.size w5 w2)) := by
          intro w1 w2 hb ⟨h1, h2, h3, h4, h5, h6⟩
          have hl : S + 2 < w1.heap.size := Nat.lt_of_lt_of_le hnb h6.size
          exact ⟨by rw [hb.cell hl]; exact h1, by rw [hb.cell hl]; exact h2, by rw [hb.cell hl]; exact h3, by rw [hb.cell hl]; exact h4, by rw [hb.cell hl]; exact h5, bnext h6 hb⟩
        have HNN := Lib.hid hN'
        clear hN'
        go_wp2
        go_region_held (fun w' => w'.cell? ⟨S + 2, 4, none⟩ = some (.slice A4 n4 m4) ∧ w'.cell? ⟨S + 2, 5, none⟩ = some (.slice A5 n5 m5) ∧ w'.cell? ⟨S + 2, 6, none⟩ = some (.slice A6 n6 m6) ∧ w'.cell? ⟨S + 2, 7, none⟩ = some (.slice A7 n7 m7) ∧ w'.cell? ⟨S + 2, 8, none⟩ = some (.bool true) ∧ Below w5.heap.size w5 w')
          (first | exact HS0.out | exact HK.out _ _ ‹_› ‹_›)
          (first | (go_at_call 58; refine (HC.out _ _ _ _ _ _ _ (by assumption) (by assumption)).mono ?_; rintro en w6 ⟨rfl, hb6⟩))
        all_goals
          have hfin : w6.cell? ⟨S + 2, 4, none⟩ = some (.slice A4 n4 m4) ∧ w6.cell? ⟨S + 2, 5, none⟩ = some (.slice A5 n5 m5) ∧ w6.cell? ⟨S + 2, 6, none⟩ = some (.slice A6 n6 m6) ∧ w6.cell? ⟨S + 2, 7, none⟩ = some (.slice A7 n7 m7) ∧ w6.cell? ⟨S + 2, 8, none⟩ = some (.bool true) ∧ Below w5.heap.size w5 w6 := by assumption
          have hb56 := hfin.2.2.2.2.2
          go_wp2
          go_roundw
          case rel => exact ⟨i + 1, ρ', C', st', L', by go_num, by omega, HNN.out.below hb56 (Xt.refl _ _), bnext HB5.out.1 hb56, HB5.out.2⟩
          case measure => simp [intOf]; omega
      · obtain rfl : i = L.length := by omega
        go_wp2_with fail
        refine (knows_any _).mono ?_
        rintro e w4 ⟨rfl, hb4⟩
        go_wp2
        go_ret
        exact ⟨rfl, bnext HB.out.1 hb4⟩
end Go.Proofs.Ytominjooffecnaa.WLk
