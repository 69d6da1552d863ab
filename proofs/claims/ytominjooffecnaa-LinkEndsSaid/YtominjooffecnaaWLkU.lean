/- The walk of the law LinkEnds: once packets come through both ways, all is told, and both ends are idle. -/
import Derived.Test.YtominjooffecnaaWLkQ
import Derived.Test.YtominjooffecnaaWLkP
namespace Go.Proofs.Ytominjooffecnaa.WLk
open Go.RowKit Kn

theorem upd_half (st : Nat → Lk.E) (k : Nat) : upd st (1 - k) (Lk.got (st (1 - k)) (Lk.tick (st k))) = Lk.half k st := by
  funext j
  rw [upd, Lk.half]

set_option maxRecDepth 100000 in
set_option maxHeartbeats 8000000 in
theorem ends_ (A : Option Addr) (cap : Nat) (L : List Stp) (w : World) (_hcap : L.length ≤ cap) (_hcm : cap ≤ 9223372036854775807) (hs : Sts w A L) (hok : ∀ i, (h : i < L.length) → StpOk L[i]) :
    Calls Try.prog 16 #[.slice A L.length cap] w fun e w' => e = .returned (.bool true) ∧ Below w.heap.size w w' := by
  obtain ⟨i9, hi9, hz9, hs9, hb9⟩ := info_parts info9
  have HOK := Lib.hid hok
  have HS := Lib.hid hs
  clear hok hs
  go_enter Try.func16, Try.ntmps16
  go_wp2_with fail
  refine (few_any A cap L _ HS.out HOK.out).mono ?_
  rintro e w1 ⟨⟨b, rfl, hfew⟩, hb1⟩
  go_wp2_with fail
  refine (new_any 3 (by decide) _).mono ?_
  rintro e w2 ⟨rfl, rfl⟩
  go_wp2_with fail
  refine (new_any 3 (by decide) _).mono ?_
  rintro e w3 ⟨rfl, hw3⟩
  have hs1 := hb1.size
  have hs3 : w3.heap.size = w1.heap.size + 2 := by rw [hw3]; simp
  have hB3 : Below w.heap.size w w3 := by rw [hw3]; exact balloc (balloc hb1 _) _
  have g0 : w3.heap[w1.heap.size]? = some (.cells #[.int .u64 (3 : Nat), .slice none 0 0, .int .u64 1, .int .u64 0, .string ⟨#[]⟩] 119 (0, 0)) := by
    rw [hw3, heap_alloc_old _ _ (by simp)]; exact heap_alloc_new _ _
  have g1 : w3.heap[w1.heap.size + 1]? = some (.cells #[.int .u64 (3 : Nat), .slice none 0 0, .int .u64 1, .int .u64 0, .string ⟨#[]⟩] 119 (0, 0)) := by
    have := heap_alloc_new (w1.alloc (.cells #[.int .u64 (3 : Nat), .slice none 0 0, .int .u64 1, .int .u64 0, .string ⟨#[]⟩] 119)) (.cells #[.int .u64 (3 : Nat), .slice none 0 0, .int .u64 1, .int .u64 0, .string ⟨#[]⟩] 119)
    rw [World.size_alloc] at this
    rw [hw3]; exact this
  clear hw3
  cases b
  · clear hfew g0 g1
    go_wp2_with fail
    refine (knows_any _).mono ?_
    rintro e w4 ⟨rfl, hb4⟩
    have hB4 := bnext (balloc hB3 _) hb4
    clear hb4
    go_wp2
    go_ret
    exact ⟨rfl, hB4⟩
  · have hf := hfew rfl
    clear hfew
    obtain ⟨hL80, hL7⟩ := hf
    have HL7 := Lib.hid hL7
    clear hL7
    obtain ⟨S, hS⟩ : ∃ S, w1.heap.size = S := ⟨_, rfl⟩
    rw [hS] at hs1 hs3 g0 g1
    obtain ⟨C0, hN0⟩ := net_start (w3.alloc (.cells #[.pointer (some ⟨S, 0, none⟩), .pointer (some ⟨S + 1, 0, none⟩), .slice none 0 0, .slice none 0 0, .slice none 0 0, .slice none 0 0, .slice none 0 0, .slice none 0 0, .bool true] 93)) w.heap.size S hs1
      ((heap_alloc_old _ _ (by omega)).trans g0) ((heap_alloc_old _ _ (by omega)).trans g1) (by rw [← hs3]; exact heap_alloc_new _ _)
    have HN0 := Lib.hid hN0
    have HB0 : Hid (Below w.heap.size w (w3.alloc (.cells #[.pointer (some ⟨S, 0, none⟩), .pointer (some ⟨S + 1, 0, none⟩), .slice none 0 0, .slice none 0 0, .slice none 0 0, .slice none 0 0, .slice none 0 0, .slice none 0 0, .bool true] 93)) ∧ ∀ k, k < w.heap.size → tag0 w.heap.size S k = 100) :=
      ⟨balloc hB3 _, fun k hk => by rw [tag0, if_pos hk]⟩
    clear hN0 g0 g1 hb1 hB3
    go_wp2
    go_loopw [5, 6] (fun pv iv wr => ∃ (i P : Nat) (ρ : Nat → Nat) (C : Nat → Value) (st : Nat → Lk.E) (LL : Nat → Nat → Txts), pv = .int .i64 P ∧ iv = .int .i64 i ∧ i ≤ L.length ∧ P ≤ 10 * i ∧ Hid (P = total st) ∧ Hid (Net wr ρ (S + 2) (fun k => S + k) C st LL i) ∧ Hid (Below w.heap.size w wr ∧ ∀ k, k < w.heap.size → ρ k = 100)) (fun _ iv _ => L.length - (intOf iv).toNat)
    case atStart => exact ⟨0, 0, _, C0, fun _ => ⟨[], 0, 0⟩, fun _ _ => [], rfl, rfl, Nat.zero_le _, Nat.zero_le _, rfl, HN0.out, HB0.out⟩
    case round =>
      clear HN0 HB0 hs3 hS
      obtain ⟨i, P, ρ, C, st, LL, rfl, rfl, hi, hP, HP, HN, HB⟩ := hrel
      have hi0 : (0 : Int) ≤ (i : Int) := by omega
      by_cases hlt : i < L.length
      · have hlt' : (i : Int) < (L.length : Int) := by omega
        rcases HS.out with h0 | ⟨b, off, rfl, hbl, hc⟩
        · rw [h0] at hlt; simp at hlt
        have hat := hc i hlt
        have h7 := HL7.out i hlt
        have hk := HOK.out i hlt
        clear hc
        generalize L[i] = sp at hat h7 hk
        have HAT := Lib.hid hat
        obtain ⟨a0, a1, a2, a3, a4, a5⟩ := hat.block (HB.out.1.block b hbl)
        obtain ⟨k0, k1, _, k3, k4, k5⟩ := hk
        clear hat
        go_wp2_with fail
        refine (step_any (S + 2) (fun k => S + k) C st LL i (by omega) ρ sp.what sp.to sp.at_ sp.byte sp.by_ ⟨sp.text.toArray⟩ _ HN.out k0 k1 k3 k4 k5 (by rw [size_mk]; exact h7)).mono ?_
        rintro e w5 ⟨rfl, ρ', C', st', L', hN', htot, hx, hf⟩
        have HB5 : Hid (Below w.heap.size w w5 ∧ ∀ k, k < w.heap.size → ρ' k = 100) :=
          ⟨Fr.below HB.out.1 hf HB.out.1.size (fun k hk => by rw [HB.out.2 k hk]; decide), fun k hk => by rw [hx k (Nat.lt_of_lt_of_le hk HB.out.1.size)]; exact HB.out.2 k hk⟩
        have HNN := Lib.hid hN'
        have hP' := HP.out
        clear HB HN HP hx hf a0 a1 a2 a3 a4 a5 hN'
        obtain ⟨a0, _, a2, _, _, _⟩ := HAT.out.block (HB5.out.1.block b hbl)
        by_cases h6 : sp.what % 6 = 0
        · have h6' : (sp.what : Int) % 6 = 0 := by omega
          have hpl := Lk.parts_len (⟨sp.text.toArray⟩ : ByteArray).data.toList
          rw [if_pos h6] at htot
          have HC := Lib.hid (parts_any _ ⟨sp.text.toArray⟩ (Nat.le_refl _) (by rw [size_mk]; exact h7))
          have hpl2 : (Lk.parts (⟨sp.text.toArray⟩ : ByteArray).data.toList).length ≤ 10 := by
            have : (⟨sp.text.toArray⟩ : ByteArray).data.toList.length = sp.text.length := by simp
            omega
          clear h6 hpl
          obtain ⟨M, hM⟩ : ∃ M, (Lk.parts (⟨sp.text.toArray⟩ : ByteArray).data.toList).length = M := ⟨_, rfl⟩
          rw [hM] at htot hpl2
          have HM := Lib.hid hM
          have HTT : Hid (P + M = total st') := by show _ = _; rw [htot, hP']
          clear hM htot hP'
          go_wp2_with fail
          refine (HC.out _).mono ?_
          rintro e w6 ⟨v, rfl, ⟨ad, c, rfl, _⟩, hb6⟩
          rw [HM.out]
          go_wp2
          go_roundw
          case rel => exact ⟨i + 1, P + M, ρ', C', st', L', by go_num, by go_num, by omega, by omega, HTT.out, HNN.out.below hb6 (Xt.refl _ _), bnext HB5.out.1 hb6, HB5.out.2⟩
          case measure => simp [intOf]; omega
        · have h6' : ((sp.what : Int) % 6 == 0) = false := by rw [beq_eq_false_iff_ne]; omega
          rw [if_neg h6] at htot
          have HTT : Hid (P = total st') := by show _ = _; rw [htot, hP']; rfl
          clear h6 htot hP'
          go_wp2
          go_roundw
          case rel => exact ⟨i + 1, P, ρ', C', st', L', rfl, by go_num, by omega, by omega, HTT.out, HNN.out, HB5.out.1, HB5.out.2⟩
          case measure => simp [intOf]; omega
      · obtain rfl : i = L.length := by omega
        have HI := Lib.hid (HN.out.inv 0 (by decide))
        go_wp2
        obtain ⟨wo, rfl⟩ : ∃ wo : World, wo = wr := ⟨_, rfl⟩
        go_loopw [7] (fun iv wr => ∃ (i : Nat) (ρ : Nat → Nat) (C : Nat → Value) (LL : Nat → Nat → Txts), iv = .int .i64 i ∧ i ≤ P + 1 ∧ Hid (Net wr ρ (S + 2) (fun k => S + k) C (Lk.rounds st (2 * i)) LL L.length) ∧ Hid (Below w.heap.size w wr ∧ ∀ k, k < w.heap.size → ρ k = 100)) (fun iv _ => P + 1 - (intOf iv).toNat)
        case atStart => exact ⟨0, ρ, C, LL, rfl, Nat.zero_le _, HN.out, HB.out⟩
        case round =>
          clear HN HB
          obtain ⟨i, ρ, C, LL, rfl, hi, HN, HB⟩ := hrel
          have hi0 : (0 : Int) ≤ (i : Int) := by omega
          by_cases hlt : i ≤ P
          · go_wp2
            obtain ⟨wo, rfl⟩ : ∃ wo : World, wo = wr := ⟨_, rfl⟩
            go_loopw [8] (fun kv wr => ∃ (k : Nat) (ρ : Nat → Nat) (C : Nat → Value) (LL : Nat → Nat → Txts), kv = .int .i64 k ∧ k ≤ 2 ∧ Hid (Net wr ρ (S + 2) (fun k => S + k) C (Lk.rounds st (2 * i + k)) LL L.length) ∧ Hid (Below w.heap.size w wr ∧ ∀ k, k < w.heap.size → ρ k = 100)) (fun kv _ => 2 - (intOf kv).toNat)
            case atStart => exact ⟨0, ρ, C, LL, rfl, Nat.zero_le _, HN.out, HB.out⟩
            case round =>
              clear HN HB
              obtain ⟨k, ρ, C, LL, rfl, hk, HN, HB⟩ := hrel
              have hk0 : (0 : Int) ≤ (k : Int) := by omega
              by_cases hk2 : k < 2
              · obtain ⟨sr, hsr⟩ : ∃ sr, sr = Lk.rounds st (2 * i + k) := ⟨_, rfl⟩
                obtain ⟨j, hj⟩ : ∃ j, j = 1 - k := ⟨_, rfl⟩
                have hj2 : j < 2 := by omega
                have hkj : 1 - j = k := by omega
                have HST : Hid (upd sr j (Lk.got (sr j) (Lk.tick (sr k))) = Lk.rounds st (2 * i + (k + 1))) := by
                  show _ = _
                  rw [hj, upd_half, hsr, show 2 * i + (k + 1) = 2 * i + k + 1 from rfl, Lk.rounds, show (2 * i + k) % 2 = k by omega]
                rw [← hsr] at HN
                clear hsr
                have hk1 : (k : Int) < 2 := by omega
                have hj0 : (0 : Int) ≤ (j : Int) := by omega
                have hj1 : (j : Int) < 2 := by omega
                have hsub : IntKind.i64.wrap ((1 : Int) - (k : Int)) = (j : Int) := by rw [IntKind.wrap_i64]; omega
                have HJ := Lib.hid (And.intro hj hkj)
                clear hj hkj
                obtain ⟨p, hp⟩ : ∃ p, p = Lk.tick (sr k) := ⟨_, rfl⟩
                have hg : Lk.Good (sr j) (sr k) p := by rw [hp]; exact Lk.tick_good _ _
                have hinv : Lk.Inv (sr j) (sr k) := by have := HN.out.inv j hj2; rw [HJ.out.2] at this; exact this
                rw [← hp] at HST
                have hcj := HN.out.cnt j hj2
                have hck := HN.out.cnt k hk2
                have hXl := bytesN_len p hg.2.1
                obtain ⟨X, hX⟩ : ∃ X, X = bytesN 3 p := ⟨_, rfl⟩
                rw [← hX] at hXl
                have hn := HN.out.mem
                have hnlt := hn.lt
                have p0 := hn.ptr k hk2
                have p1 := hn.ptr j hj2
                have c0 : wr.cell? ⟨S + 2, k, none⟩ = some (.pointer (some ⟨S + k, 0, none⟩)) := by rw [(hn.cell k (by omega)).1, p0.1]
                have c1 : wr.cell? ⟨S + 2, j, none⟩ = some (.pointer (some ⟨S + j, 0, none⟩)) := by rw [(hn.cell j (by omega)).1, p1.1]
                have hρj : ρ (S + j) = 1 + j := p1.2
                have hen : EndW wr ρ (3 + j) 3 (S + j) (sr j) (sr k) := by have := hn.ends j hj2; rw [HJ.out.2] at this; exact this
                have hek : EndW wr ρ (3 + k) 3 (S + k) (sr k) (sr (1 - k)) := hn.ends k hk2
                have HTT : Hid (∀ W, Below wr.heap.size wr W → Calls Try.prog 61 #[.pointer (some ⟨S + k, 0, none⟩)] W fun e w' => e = .returned (.string ⟨X.toArray⟩) ∧ Below W.heap.size W w') := fun W hb => by
                  have i1 := (HN.out.inv k hk2)
                  have := i1.a1
                  have := i1.a3
                  have := i1.b3
                  have := HN.out.cnt (1 - k) (by omega)
                  rw [hX, hp]
                  exact tick_end 3 (by decide) (S + k) (sr k) (sr (1 - k)) ρ (3 + k) W (hek.keep (fun b hbl _ => hb.block b hbl) hb.size (Xt.refl _ _)) (by omega) (by omega)
                have HCall : Hid (∀ W, Below wr.heap.size wr W → Calls Try.prog 60 #[.pointer (some ⟨S + j, 0, none⟩), .string ⟨X.toArray⟩] W fun e w' => ∃ v o, e = .returned (.tuple #[v, .bool true]) ∧ Told W w' v o ∧
                    Hid (Lk.told (Lk.got (sr j) p) (sr k) = Lk.told (sr j) (sr k) ++ o.toList) ∧ EndW w' ρ (3 + j) 3 (S + j) (Lk.got (sr j) p) (sr k) ∧ W.grownBy w' (some (S + j))) := fun W hb =>
                  recv_end 3 (by decide) p (sr j) (sr k) hg hinv (by omega) (by omega) ⟨X.toArray⟩ (by rw [← hX]) (by rw [size_mk]; omega) (S + j) ρ (3 + j) (by rw [hρj]; omega) W (hen.keep (fun b hbl _ => hb.block b hbl) hb.size (Xt.refl _ _))
                have HG := Lib.hid hg
                have hne1 : S + j ≠ S + 2 := by omega
                have hL2 := HN.out.told_le j hj2
                have HHN := HN
                have HP0 : Hid (wr.drew.cell? ⟨S + 2, k, none⟩ = some (.pointer (some ⟨S + k, 0, none⟩)) ∧ wr.drew.cell? ⟨S + 2, j, none⟩ = some (.pointer (some ⟨S + j, 0, none⟩))) := ⟨c0, c1⟩
                have HK1 : Hid (∀ w1 w2 : World, Below w1.heap.size w1 w2 → (w1.cell? ⟨S + 2, k, none⟩ = some (.pointer (some ⟨S + k, 0, none⟩)) ∧ w1.cell? ⟨S + 2, j, none⟩ = some (.pointer (some ⟨S + j, 0, none⟩))) →
                    (w2.cell? ⟨S + 2, k, none⟩ = some (.pointer (some ⟨S + k, 0, none⟩)) ∧ w2.cell? ⟨S + 2, j, none⟩ = some (.pointer (some ⟨S + j, 0, none⟩)))) := fun w1 w2 hb ⟨h1, h2⟩ =>
                  ⟨(hb.cell (World.block_lt_of_cell? w1 _ h1)).trans h1, (hb.cell (World.block_lt_of_cell? w1 _ h2)).trans h2⟩
                have HK2 : Hid (∀ w1 w2 : World, w1.grownBy w2 (some (S + j)) → (w1.cell? ⟨S + 2, k, none⟩ = some (.pointer (some ⟨S + k, 0, none⟩)) ∧ w1.cell? ⟨S + 2, j, none⟩ = some (.pointer (some ⟨S + j, 0, none⟩))) →
                    (w2.cell? ⟨S + 2, k, none⟩ = some (.pointer (some ⟨S + k, 0, none⟩)) ∧ w2.cell? ⟨S + 2, j, none⟩ = some (.pointer (some ⟨S + j, 0, none⟩)))) := fun w1 w2 hb ⟨h1, h2⟩ =>
                  ⟨hb.cell h1 (by simpa using hne1.symm), hb.cell h2 (by simpa using hne1.symm)⟩
                clear hp hX hn p0 p1 hen hek hinv hg hcj hck HN
                go_wp2
                go_region_held (fun w' => w'.cell? ⟨S + 2, k, none⟩ = some (.pointer (some ⟨S + k, 0, none⟩)) ∧ w'.cell? ⟨S + 2, j, none⟩ = some (.pointer (some ⟨S + j, 0, none⟩)))
                  (first | exact HP0.out | exact HK1.out _ _ ‹_› ‹_› | exact HK2.out _ _ ‹_› ‹_›)
                  (first | (go_at_call 61; refine (HTT.out _ (Below.refl _ wr).drew).mono ?_; rintro en w1 ⟨rfl, hb1⟩) | (go_at_call 60; refine (HCall.out _ (bnext (Below.refl _ wr).drew hb1)).mono ?_; rintro en w2 ⟨v, o, rfl, hT', HTD, hE', hgr⟩; have hT := Lib.hid hT'; have hE := Lib.hid hE'; clear hT' hE'))
                all_goals
                  have hbw : Below wr.heap.size wr w1 := bnext (Below.refl _ wr).drew hb1
                  have hM1 : Mem w2 ρ (S + 2) (fun k => S + k) C (upd sr j (Lk.got (sr j) p)) LL := (HHN.out.mem.below hbw (Xt.refl _ _)).turn j hj2 (fr_grown hgr (.inr hρj)) (Xt.refl _ _) (by rw [HJ.out.2]; exact hE.out) (Lk.told_other (sr j) (Lk.got (sr j) p) (sr (1 - j)) rfl).2
                  have hS2 := hM1.slot 2 j (by decide) hj2
                  obtain ⟨A2, cap2, hC2, _, _⟩ := hS2.form
                  have c6 : w2.cell? ⟨S + 2, 6 + j, none⟩ = some (.slice A2 (LL 2 j).length cap2) := by rw [← hC2]; exact (hM1.cell (6 + j) (by omega)).1
                  have f6 : w2.frozen? ⟨S + 2, 6 + j, none⟩ = false := (hM1.cell (6 + j) (by omega)).2
                  have c8 : w2.cell? ⟨S + 2, 8, none⟩ = some (.bool true) := by rw [← HHN.out.fine]; exact (hM1.cell 8 (by omega)).1
                  have f8 : w2.frozen? ⟨S + 2, 8, none⟩ = false := (hM1.cell 8 (by omega)).2
                  have HF1 : Hid (Fr (· < 11) ρ wr w2) := (Fr.of_below hbw).trans (fr_grown hgr (by show ρ (S + j) < 11; rw [hρj]; omega)) (Xt.refl _ _)
                  have hS2' := hS2
                  rw [hC2] at hS2'
                  have hnb1 := hM1.lt
                  have hkne : ((6 + j : Nat) = 8) = False := by simp; omega
                  have htg : ρ (S + 2) = 0 := hM1.tag
                  have HM1 := Lib.hid hM1
                  clear hM1 hS2 hC2 hgr hb1 hbw
                  have HLL := HHN.out.told j hj2
                  generalize hN2 : (LL 2 j).length = N2 at *
                  have HN2 := Lib.hid hN2
                  clear hN2 HLL
                  rcases told_new hT.out with ⟨rfl, rfl⟩ | ⟨m, g2, rfl, rfl, hg2, cg2⟩
                  · go_wp2
                    go_region_law (refine step_append_none rfl (.tmp 119) (.tmp 120) 90 rfl 9 i9 Try.underlying90 hi9 hs9 (Sl.drew hS2') (by simp [Act.eval]) (by simp [Act.eval]) ?_)
                    all_goals
                      go_wp2
                      go_roundw
                      case rel =>
                        have hMd : Mem w2.drew ρ (S + 2) (fun k => S + k) C (upd sr j (Lk.got (sr j) p)) LL := HM1.out.below (Below.refl _ _).drew (Xt.refl _ _)
                        have hsM : Sl w2.drew ρ (5 + 2 * 2 + j) 1 (.slice A2 N2 cap2) (LL 2 j ++ []).length (strsV (LL 2 j ++ [])) := by
                          rw [List.append_nil, HN2.out]
                          exact hS2'
                        have hMf := (hMd.store 2 j (by decide) hj2 (Fr.refl _ _ _) (Xt.refl _ _) hsM).flag (.bool true)
                        have hNf := HHN.out.recv j hj2 p (by rw [HJ.out.2]; exact HG.out) [] (by rw [HJ.out.2]; exact HTD.out) hMf (upd_same _ _ _)
                        rw [HST.out] at hNf
                        refine ⟨k + 1, ρ, _, _, by go_num, by omega, hNf, ?_, HB.out.2⟩
                        refine Fr.below HB.out.1 (T := (· < 11)) (ρ := ρ) ?_ HB.out.1.size (fun b hb => by rw [HB.out.2 b hb]; decide)
                        refine Fr.setCell (Fr.setCell HF1.out.drew _ _ ?_) _ _ ?_
                        all_goals exact fun _ => by show ρ (S + 2) < 11; rw [htg]; decide
                      case measure => simp [intOf]; omega
                  · have hn2 : ∀ j' u, [Value.string ⟨m.toArray⟩][j']? = some u → w2.drew.cell? ((⟨g2, 0, none⟩ : Addr).add j') = some u := by
                      intro j' u hu
                      have e1 : (⟨g2, 0, none⟩ : Addr).add j' = ⟨g2, j', none⟩ := by unfold Addr.add; split <;> simp_all
                      match j', hu with
                      | 0, hu =>
                        rw [e1]
                        simp at hu
                        subst hu
                        exact cg2
                    have HN2' := Lib.hid hn2
                    clear hn2
                    go_wp2
                    go_region_law (refine step_append_sl rfl (.tmp 119) (.tmp 120) 90 rfl 9 i9 _ 16 Try.underlying90 hi9 hz9 hs9 hb9 rfl (by decide) (Sl.drew hS2') (by simp [Act.eval]) ⟨g2, 0, none⟩ 1 1 [.string ⟨m.toArray⟩] (by simp [Act.eval]) rfl HN2'.out (one1 _) (by unfold maxLen; omega) (by omega) ?_; intro v' w3 hsl' hfr'; have hblk := hfr'.block (S + 2) hnb1 (by rw [htg]; omega); have c6' : w3.cell? ⟨S + 2, 6 + j, none⟩ = some (.slice A2 N2 cap2) := (by rw [World.cell?_of_block (a := ⟨S + 2, 6 + j, none⟩) hblk]; exact c6); have f6' : w3.frozen? ⟨S + 2, 6 + j, none⟩ = false := (by rw [World.frozen?_of_block (a := ⟨S + 2, 6 + j, none⟩) hblk]; exact f6); have c8' : w3.cell? ⟨S + 2, 8, none⟩ = some (.bool true) := (by rw [World.cell?_of_block (a := ⟨S + 2, 8, none⟩) hblk]; exact c8); have f8' : w3.frozen? ⟨S + 2, 8, none⟩ = false := (by rw [World.frozen?_of_block (a := ⟨S + 2, 8, none⟩) hblk]; exact f8); clear hblk; obtain ⟨A', cap', hv', _, _⟩ := hsl'.form; subst hv')
                    all_goals
                      go_wp2
                      go_roundw
                      case rel =>
                        have hMd : Mem w2.drew ρ (S + 2) (fun k => S + k) C (upd sr j (Lk.got (sr j) p)) LL := HM1.out.below (Below.refl _ _).drew (Xt.refl _ _)
                        have hsM : Sl w3 (xt ρ w2.drew.heap.size (5 + 2 * 2 + j)) (5 + 2 * 2 + j) 1 (.slice A' (N2 + 1) cap') (LL 2 j ++ [m]).length (strsV (LL 2 j ++ [m])) := by
                          rw [show strsV (LL 2 j ++ [m]) = strsV (LL 2 j) ++ [.string ⟨m.toArray⟩] by rw [strsV, List.map_append]; rfl, List.length_append, HN2.out]
                          exact hsl'
                        have hszw : w.heap.size ≤ w2.drew.heap.size := Nat.le_trans HB.out.1.size HF1.out.size
                        have hMf := (hMd.store 2 j (by decide) hj2 hfr' (Xt.xt _ _ _) hsM).flag (.bool true)
                        have hNf := HHN.out.recv j hj2 p (by rw [HJ.out.2]; exact HG.out) [m] (by rw [HJ.out.2]; exact HTD.out) hMf (upd_same _ _ _)
                        rw [HST.out] at hNf
                        refine ⟨k + 1, _, _, _, by go_num, by omega, hNf, ?_, fun b hb => by rw [xt_old (Nat.lt_of_lt_of_le hb hszw)]; exact HB.out.2 b hb⟩
                        refine Fr.below HB.out.1 (T := (· < 11)) (ρ := ρ) ?_ HB.out.1.size (fun b hb => by rw [HB.out.2 b hb]; decide)
                        refine Fr.setCell (Fr.setCell (HF1.out.drew.trans (hfr'.mono (fun t ht => by omega)) (Xt.refl _ _)) _ _ ?_) _ _ ?_
                        all_goals exact fun _ => by show ρ (S + 2) < 11; rw [htg]; decide
                      case measure => simp [intOf]; omega
              · obtain rfl : k = 2 := by omega
                go_wp2
                go_roundw
                case rel => exact ⟨i + 1, ρ, C, LL, by go_num, by omega, HN.out, HB.out⟩
                case measure => simp [intOf]; omega
          · obtain rfl : i = P + 1 := by omega
            obtain ⟨hd, ht⟩ := Lk.rounds_done (st := st) HI.out (P + 1) (by rw [HP.out]; exact Nat.le_refl _)
            have hsn := Lk.rounds_sent st (2 * (P + 1))
            have hal := Lk.rounds_all st (2 * (P + 1))
            generalize Lk.rounds st (2 * (P + 1)) = sr at HN hd ht hsn hal
            have E0 : LL 2 0 = LL 1 1 := by rw [HN.out.told 0 (by decide), HN.out.sent 1 (by decide), hsn 1]; exact ht 0 (by decide)
            have E1 : LL 2 1 = LL 1 0 := by rw [HN.out.told 1 (by decide), HN.out.sent 0 (by decide), hsn 0]; exact ht 1 (by decide)
            have ED : ∀ k, k < 2 → (sr k).all.drop (sr k).done = [] := fun k hk => List.drop_of_length_le (by rw [hd k hk, hal k]; exact Nat.le_refl _)
            obtain ⟨A4, n4, m4, c4, l4, e4, r4⟩ := HN.out.read' 1 0 (by decide) (by decide)
            obtain ⟨A5, n5, m5, c5, l5, e5, r5⟩ := HN.out.read' 1 1 (by decide) (by decide)
            obtain ⟨A6, n6, m6, c6, l6, e6, r6⟩ := HN.out.read' 2 0 (by decide) (by decide)
            obtain ⟨A7, n7, m7, c7, l7, e7, r7⟩ := HN.out.read' 2 1 (by decide) (by decide)
            have c8 : wr.cell? ⟨S + 2, 8, none⟩ = some (.bool true) := by rw [← HN.out.fine]; exact (HN.out.mem.cell 8 (by decide)).1
            have c0 : wr.cell? ⟨S + 2, 0, none⟩ = some (.pointer (some ⟨S, 0, none⟩)) := by rw [(HN.out.mem.cell 0 (by decide)).1, (HN.out.mem.ptr 0 (by decide)).1]; rfl
            have c1 : wr.cell? ⟨S + 2, 1, none⟩ = some (.pointer (some ⟨S + 1, 0, none⟩)) := by rw [(HN.out.mem.cell 1 (by decide)).1, (HN.out.mem.ptr 1 (by decide)).1]
            have hnb := HN.out.mem.lt
            have HSA : Hid (∀ W, Below wr.heap.size wr W → Calls Try.prog 62 #[.slice A6 n6 m6, .slice A5 n5 m5] W fun e w' => e = .returned (.bool true) ∧ Below W.heap.size W w') := fun W hb => by
              rw [e6, e5, ← E0]
              exact same_eq A6 A5 m6 m5 (LL 2 0) (by omega) l6.2 W (r6.below hb) (by rw [E0]; exact r5.below hb)
            have HSB : Hid (∀ W, Below wr.heap.size wr W → Calls Try.prog 62 #[.slice A7 n7 m7, .slice A4 n4 m4] W fun e w' => e = .returned (.bool true) ∧ Below W.heap.size W w') := fun W hb => by
              rw [e7, e4, ← E1]
              exact same_eq A7 A4 m7 m4 (LL 2 1) (by omega) l7.2 W (r7.below hb) (by rw [E1]; exact r4.below hb)
            have HID : ∀ k, k < 2 → ∀ W, Below wr.heap.size wr W → Calls Try.prog 63 #[.pointer (some ⟨S + k, 0, none⟩)] W fun e w' => e = .returned (.bool true) ∧ w' = W := fun k hk W hb => by
              obtain ⟨pv, hrow, hsl⟩ := (HN.out.mem.below hb (Xt.refl _ _)).ends k hk
              rw [ED k hk] at hsl
              exact idle_any _ pv _ _ _ [] ρ (3 + k) (S + k) W hrow hsl
            have HI0 : Hid (∀ W, Below wr.heap.size wr W → Calls Try.prog 63 #[.pointer (some ⟨S, 0, none⟩)] W fun e w' => e = .returned (.bool true) ∧ w' = W) := HID 0 (by decide)
            have HI1 : Hid (∀ W, Below wr.heap.size wr W → Calls Try.prog 63 #[.pointer (some ⟨S + 1, 0, none⟩)] W fun e w' => e = .returned (.bool true) ∧ w' = W) := HID 1 (by decide)
            have HALL : Hid (∀ W, Below wr.heap.size wr W → W.cell? ⟨S + 2, 0, none⟩ = some (.pointer (some ⟨S, 0, none⟩)) ∧ W.cell? ⟨S + 2, 1, none⟩ = some (.pointer (some ⟨S + 1, 0, none⟩)) ∧ W.cell? ⟨S + 2, 4, none⟩ = some (.slice A4 n4 m4) ∧ W.cell? ⟨S + 2, 7, none⟩ = some (.slice A7 n7 m7) ∧ W.cell? ⟨S + 2, 8, none⟩ = some (.bool true)) := fun W hb => by
              refine ⟨?_, ?_, ?_, ?_, ?_⟩
              · rw [hb.cell hnb]; exact c0
              · rw [hb.cell hnb]; exact c1
              · rw [hb.cell hnb]; exact c4
              · rw [hb.cell hnb]; exact c7
              · rw [hb.cell hnb]; exact c8
            clear HID e4 e5 e6 e7 r4 r5 r6 r7 E0 E1 ED hd ht hsn hal HN HP HI
            go_wp2
            go_region_with (go_at_call 62; refine (HSA.out _ (Below.refl _ wr).drew).mono ?_; rintro e w5 ⟨rfl, hb5⟩)
            all_goals
              have hB5 : Below wr.heap.size wr w5 := bnext (Below.refl _ wr).drew hb5
              clear hb5
              obtain ⟨d0, d1, d4, d7, d8⟩ := HALL.out _ hB5
              go_wp2
              go_region_with (go_at_call 62; refine (HSB.out _ hB5.drew).mono ?_; rintro e w6 ⟨rfl, hb6⟩)
              all_goals
                have hB6 : Below wr.heap.size wr w6 := bnext hB5.drew hb6
                clear hb6 d0 d1 d4 d7 d8
                go_wp2_with fail
                refine (knows_any _).mono ?_
                rintro e w7 ⟨rfl, hb7⟩
                have hB7 := bnext hB6 hb7
                clear hb7
                obtain ⟨d0, d1, d4, d7, d8⟩ := HALL.out _ hB7
                go_wp2_with fail
                refine (HI0.out _ hB7).mono ?_
                rintro e w8 ⟨rfl, rfl⟩
                go_wp2_with fail
                refine (HI1.out _ hB7).mono ?_
                rintro e w9 ⟨rfl, rfl⟩
                go_wp2
                go_ret
                exact ⟨rfl, bnext HB.out.1 hB7⟩
end Go.Proofs.Ytominjooffecnaa.WLk
