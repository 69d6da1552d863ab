/- A step of the net in which an end ticks (layer 24). -/
import Derived.Test.YtominjooffecnaaWLkN
namespace Go.Proofs.Ytominjooffecnaa.WLk
open Go.RowKit Kn

theorem news1 {W : World} {a : Value} {t : TypeId} {N : Nat} (h : W.heap.size = N) : ∀ j u, [a][j]? = some u → (W.alloc (.cells #[a] t)).cell? ((⟨N, 0, none⟩ : Addr).add j) = some u := news1d h

set_option maxRecDepth 100000 in
set_option maxHeartbeats 4000000 in
theorem step_tick (nb : Nat) (e : Nat → Nat) (C : Nat → Value) (st : Nat → Lk.E) (L : Nat → Nat → Txts) (ρ : Nat → Nat) (what to at_ byte by_ : Nat) (text : ByteArray) (w : World) (hn : Mem w ρ nb e C st L)
    (hwhat : what < 256) (hto : to < 256) (hw : what % 6 = 1 ∨ what % 6 = 2) (k j : Nat) (hk : to % 2 = k) (hj : j = 1 - k) (hsz : (L 0 j).length ≤ 1000 ∧ (st k).done < 900000 ∧ (st k).took < 900000) :
    Calls Try.prog 57 #[.pointer (some ⟨nb, 0, none⟩), .agg #[.int .u8 what, .int .u8 to, .string text, .int .u8 at_, .int .u8 byte, .int .u8 by_]] w fun en w' => en = .returned (.tuple #[]) ∧ ∃ ρ' C',
      Mem w' ρ' nb e C' st (upd2 L 0 j (L 0 j ++ [bytesN 3 (Lk.tick (st k))])) ∧ C' 8 = C 8 ∧ Xt ρ ρ' w.heap.size ∧ Fr (· < 11) ρ w w' := by
  obtain ⟨i9, hi9, hz9, hs9, hb9⟩ := info_parts info9
  have hk2 : k < 2 := by omega
  have hj2 : j < 2 := by omega
  have hti : (to : Int) % 2 = (k : Int) := by omega
  have hk0 : (0 : Int) ≤ (k : Int) := by omega
  have hk1 : (k : Int) < 2 := by omega
  have hj0 : (0 : Int) ≤ (j : Int) := by omega
  have hj1 : (j : Int) < 2 := by omega
  have hsub : IntKind.i64.wrap ((1 : Int) - (k : Int)) = (j : Int) := by rw [IntKind.wrap_i64]; omega
  have HJ := Lib.hid hj
  clear hj
  have hHM : Hid (Mem w ρ nb e C st L) := hn
  have c0 : w.cell? ⟨nb, k, none⟩ = some (.pointer (some ⟨e k, 0, none⟩)) := by rw [← (hn.ptr k hk2).1]; exact (hn.cell k (by omega)).1
  have hnlt := hn.lt
  have hS := hn.slot 0 j (by decide) hj2
  obtain ⟨A, cap, hCs, _, _⟩ := hS.form
  have c2 : w.cell? ⟨nb, 2 + j, none⟩ = some (.slice A (L 0 j).length cap) := by rw [← hCs]; exact (hn.cell (2 + j) (by omega)).1
  have f2 : w.frozen? ⟨nb, 2 + j, none⟩ = false := (hn.cell (2 + j) (by omega)).2
  rw [hCs] at hS
  have hlen := hsz.1
  have HS := Lib.hid hS
  have HD := Lib.hid hsz.2
  generalize hN : (L 0 j).length = N at *
  have HN := Lib.hid hN
  have HT := fun W (hb : Below w.heap.size w W) => tick_end 3 (by decide) (e k) (st k) (st (1 - k)) (xt ρ w.heap.size 99) (3 + k) W ((hHM.out.below (w' := W) hb (Xt.xt _ _ _)).ends k hk2) HD.out.1 HD.out.2
  have HTT := Lib.hid HT
  clear hN hS hCs hsz hk hn HT
  have hwn : w.heap.size ≠ nb := by omega
  rcases hw with hw | hw
  · have hwi : (what : Int) % 6 = 1 := by omega
    clear hw
    go_enter Try.func57, Try.ntmps57
    go_wp2
    go_region_law (first
      | (refine step_call rfl 61 #[.pointer (some ⟨e k, 0, none⟩)] (by go_simp) (HTT.out _ (balloc (Below.refl _ _) _).drew) ?_; rintro en w1 ⟨rfl, hb1⟩; refine ⟨_, rfl, ?_⟩; have hbw := bnext (balloc (Below.refl _ _) _).drew hb1; have c2' : w1.cell? ⟨nb, 2 + j, none⟩ = some (.slice A N cap) := (by rw [hbw.cell hnlt]; exact c2); have hnb1 : nb < w1.heap.size := (by have := hbw.size; omega); have c2a : ∀ o, (w1.alloc o).cell? ⟨nb, 2 + j, none⟩ = some (.slice A N cap) := (fun o => by rw [World.cell?_alloc_lt _ _ _ hnb1]; exact c2'); clear hb1)
      | (refine step_append_sl rfl (.tmp 139) (.tmp 147) 90 rfl 9 i9 _ 16 Try.underlying90 hi9 hz9 hs9 hb9 rfl (by decide) (Sl.alloc (HS.out.below hbw) _) (by simp [Act.eval]) ⟨w1.heap.size, 0, none⟩ 1 1 [.string ⟨(bytesN 3 (Lk.tick (st k))).toArray⟩] (by simp [Act.eval]) rfl (news1 rfl) (one1 _) (by unfold maxLen; omega) (by omega) ?_; intro v' w2 hsl' hfr'; have hblk := (hfr'.block nb (by have := hbw.size; simp; omega) (by rw [hHM.out.tag]; omega)).trans ((heap_alloc_old w1 _ (Nat.lt_of_lt_of_le hnlt hbw.size)).trans (hbw.block nb hnlt)); have c2'' : w2.cell? ⟨nb, 2 + j, none⟩ = some (.slice A N cap) := (by rw [World.cell?_of_block (a := ⟨nb, 2 + j, none⟩) hblk]; exact c2); have f2'' : w2.frozen? ⟨nb, 2 + j, none⟩ = false := (by rw [World.frozen?_of_block (a := ⟨nb, 2 + j, none⟩) hblk]; exact f2); clear hblk; obtain ⟨A', cap', hv', _, _⟩ := hsl'.form; subst hv'))
    all_goals
      go_wp2
      go_end0
      have hMA : Mem (w1.alloc (.cells #[.string ⟨(bytesN 3 (Lk.tick (st k))).toArray⟩] 9)) ρ nb e C st L := hHM.out.below (balloc hbw _) (Xt.refl _ _)
      have hsM : Sl w2 (xt ρ (w1.alloc (.cells #[.string ⟨(bytesN 3 (Lk.tick (st k))).toArray⟩] 9)).heap.size (5 + 2 * 0 + j)) (5 + 2 * 0 + j) 1 (.slice A' (N + 1) cap') (L 0 j ++ [bytesN 3 (Lk.tick (st k))]).length (strsV (L 0 j ++ [bytesN 3 (Lk.tick (st k))])) := by
        rw [show strsV (L 0 j ++ [bytesN 3 (Lk.tick (st k))]) = strsV (L 0 j) ++ [.string ⟨(bytesN 3 (Lk.tick (st k))).toArray⟩] by rw [strsV, List.map_append]; rfl, List.length_append, HN.out]
        exact hsl'
      have hsz2 : w.heap.size ≤ (w1.alloc (.cells #[.string ⟨(bytesN 3 (Lk.tick (st k))).toArray⟩] 9)).heap.size := by have := hbw.size; simp; omega
      refine ⟨rfl, _, _, hMA.store 0 j (by decide) hj2 hfr' (Xt.xt _ _ _) hsM, upd_other _ _ (by omega), (Xt.refl ρ _).trans (Xt.xt _ _ _) hsz2, ?_⟩
      refine Fr.setCell ?_ _ _ (fun _ => by show ρ nb < 11; rw [hHM.out.tag]; decide)
      exact (Fr.of_below (balloc hbw _)).trans (hfr'.mono (fun t ht => by omega)) (Xt.refl _ _)
  · have hwi : (what : Int) % 6 = 2 := by omega
    clear hw
    go_enter Try.func57, Try.ntmps57
    go_wp2
    go_region_law (first
      | (refine step_call rfl 61 #[.pointer (some ⟨e k, 0, none⟩)] (by go_simp) (HTT.out _ (balloc (Below.refl _ _) _).drew) ?_; rintro en w1 ⟨rfl, hb1⟩; refine ⟨_, rfl, ?_⟩; have hbw := bnext (balloc (Below.refl _ _) _).drew hb1; have c2' : w1.cell? ⟨nb, 2 + j, none⟩ = some (.slice A N cap) := (by rw [hbw.cell hnlt]; exact c2); have hnb1 : nb < w1.heap.size := (by have := hbw.size; omega); have c2a : ∀ o, (w1.alloc o).cell? ⟨nb, 2 + j, none⟩ = some (.slice A N cap) := (fun o => by rw [World.cell?_alloc_lt _ _ _ hnb1]; exact c2'); clear hb1)
      | (refine step_append_sl rfl (.tmp 139) (.tmp 147) 90 rfl 9 i9 _ 16 Try.underlying90 hi9 hz9 hs9 hb9 rfl (by decide) (Sl.alloc (HS.out.below hbw) _) (by simp [Act.eval]) ⟨w1.heap.size, 0, none⟩ 1 1 [.string ⟨(bytesN 3 (Lk.tick (st k))).toArray⟩] (by simp [Act.eval]) rfl (news1 rfl) (one1 _) (by unfold maxLen; omega) (by omega) ?_; intro v' w2 hsl' hfr'; have hblk := (hfr'.block nb (by have := hbw.size; simp; omega) (by rw [hHM.out.tag]; omega)).trans ((heap_alloc_old w1 _ (Nat.lt_of_lt_of_le hnlt hbw.size)).trans (hbw.block nb hnlt)); have c2'' : w2.cell? ⟨nb, 2 + j, none⟩ = some (.slice A N cap) := (by rw [World.cell?_of_block (a := ⟨nb, 2 + j, none⟩) hblk]; exact c2); have f2'' : w2.frozen? ⟨nb, 2 + j, none⟩ = false := (by rw [World.frozen?_of_block (a := ⟨nb, 2 + j, none⟩) hblk]; exact f2); clear hblk; obtain ⟨A', cap', hv', _, _⟩ := hsl'.form; subst hv'))
    all_goals
      go_wp2
      go_end0
      have hMA : Mem (w1.alloc (.cells #[.string ⟨(bytesN 3 (Lk.tick (st k))).toArray⟩] 9)) ρ nb e C st L := hHM.out.below (balloc hbw _) (Xt.refl _ _)
      have hsM : Sl w2 (xt ρ (w1.alloc (.cells #[.string ⟨(bytesN 3 (Lk.tick (st k))).toArray⟩] 9)).heap.size (5 + 2 * 0 + j)) (5 + 2 * 0 + j) 1 (.slice A' (N + 1) cap') (L 0 j ++ [bytesN 3 (Lk.tick (st k))]).length (strsV (L 0 j ++ [bytesN 3 (Lk.tick (st k))])) := by
        rw [show strsV (L 0 j ++ [bytesN 3 (Lk.tick (st k))]) = strsV (L 0 j) ++ [.string ⟨(bytesN 3 (Lk.tick (st k))).toArray⟩] by rw [strsV, List.map_append]; rfl, List.length_append, HN.out]
        exact hsl'
      have hsz2 : w.heap.size ≤ (w1.alloc (.cells #[.string ⟨(bytesN 3 (Lk.tick (st k))).toArray⟩] 9)).heap.size := by have := hbw.size; simp; omega
      refine ⟨rfl, _, _, hMA.store 0 j (by decide) hj2 hfr' (Xt.xt _ _ _) hsM, upd_other _ _ (by omega), (Xt.refl ρ _).trans (Xt.xt _ _ _) hsz2, ?_⟩
      refine Fr.setCell ?_ _ _ (fun _ => by show ρ nb < 11; rw [hHM.out.tag]; decide)
      exact (Fr.of_below (balloc hbw _)).trans (hfr'.mono (fun t ht => by omega)) (Xt.refl _ _)
end Go.Proofs.Ytominjooffecnaa.WLk
