/- A step of the net in which a packet comes (layer 24). -/
import Derived.Test.YtominjooffecnaaWLkN
namespace Go.Proofs.Ytominjooffecnaa.WLk
open Go.RowKit Kn

theorem Mem.flag {w : World} {ρ : Nat → Nat} {nb : Nat} {e : Nat → Nat} {C : Nat → Value} {st : Nat → Lk.E} {L : Nat → Nat → Txts} (h : Mem w ρ nb e C st L) (u : Value) : Mem (w.setCell ⟨nb, 8, none⟩ u) ρ nb e (upd C 8 u) st L := by
  have hset : ∀ j, j < w.heap.size → ρ j ≠ 0 → (w.setCell ⟨nb, 8, none⟩ u).heap[j]? = w.heap[j]? := fun j _ hj => Below.heap_setCell _ _ _ _ (fun e2 => hj (by rw [e2]; exact h.tag))
  refine ⟨h.tag, by simpa using h.lt, fun j hj => ⟨?_, by rw [World.frozen?_setCell]; exact (h.cell j hj).2⟩, fun j hj => ?_, fun j hj => ?_, fun a b ha hb => ?_⟩
  · by_cases e1 : j = 8
    · subst e1
      rw [upd_same]
      exact World.cell?_setCell_same' _ _ _ (by rw [(h.cell _ hj).1]; rfl)
    · rw [upd_other _ _ e1, World.cell?_setCell_other _ _ _ _ (by intro e2; injection e2 with _ e3; exact e1 e3.symm)]
      exact (h.cell j hj).1
  · rw [upd_other _ _ (by omega)]
    exact h.ptr j hj
  · refine (h.ends j hj).keep (fun a ha haa => hset a ha ?_) (by simp) (Xt.refl _ _)
    rcases haa with h2 | h2
    · rw [h2]; omega
    · rw [h2, (h.ptr j hj).2]; omega
  · rw [upd_other _ _ (by omega)]
    exact (h.slot a b ha hb).keep (fun j hj hjj => hset j hj (by rw [hjj]; omega)) (by simp) (Xt.refl _ _)
theorem fr_grown {T : Nat → Prop} {ρ : Nat → Nat} {w w' : World} {b : Nat} (h : w.grownBy w' (some b)) (hb : T (ρ b)) : Fr T ρ w w' :=
  ⟨h.os, h.tape, h.output, h.size, fun k hk hT => h.block k hk (fun e => hT (by injection e with e; rw [e]; exact hb))⟩
theorem told_new {w w' : World} {v : Value} {o : Option (List UInt8)} (h : Told w w' v o) : (o = none ∧ v = .slice none 0 0) ∨ ∃ m g, o = some m ∧ v = .slice (some ⟨g, 0, none⟩) 1 1 ∧ w.heap.size ≤ g ∧ w'.cell? ⟨g, 0, none⟩ = some (.string ⟨m.toArray⟩) := by
  cases o with
  | none => exact .inl ⟨rfl, h⟩
  | some m =>
    obtain ⟨g, h1, h2, h3⟩ := h
    exact .inr ⟨m, g, rfl, h1, h2, h3⟩

set_option maxRecDepth 100000 in
set_option maxHeartbeats 4000000 in
theorem step_none (nb : Nat) (e : Nat → Nat) (C : Nat → Value) (st : Nat → Lk.E) (L : Nat → Nat → Txts) (ρ : Nat → Nat) (what to at_ byte by_ : Nat) (text : ByteArray) (w : World) (hn : Mem w ρ nb e C st L)
    (hwhat : what < 256) (hto : to < 256) (hw : what % 6 = 3 ∨ what % 6 = 4 ∨ what % 6 = 5) (k : Nat) (hk : to % 2 = k) (h0 : L 0 k = []) :
    Calls Try.prog 57 #[.pointer (some ⟨nb, 0, none⟩), .agg #[.int .u8 what, .int .u8 to, .string text, .int .u8 at_, .int .u8 byte, .int .u8 by_]] w fun en w' => en = .returned (.tuple #[]) ∧ Below w.heap.size w w' := by
  have hk2 : k < 2 := by omega
  have hti : (to : Int) % 2 = (k : Int) := by omega
  have hk0 : (0 : Int) ≤ (k : Int) := by omega
  have hk1 : (k : Int) < 2 := by omega
  have hS := hn.slot 0 k (by decide) hk2
  obtain ⟨A, cap, hCs, _, _⟩ := hS.form
  have c2 : w.cell? ⟨nb, 2 + k, none⟩ = some (.slice A 0 cap) := by
    rw [h0] at hCs
    have := (hn.cell (2 + k) (by omega)).1
    rw [show C (2 + k) = .slice A 0 cap from hCs] at this
    exact this
  have hnlt := hn.lt
  clear hn hS hCs hk
  rcases hw with hw | hw | hw
  · have hwi : (what : Int) % 6 = 3 := by omega
    clear hw
    go_enter Try.func57, Try.ntmps57
    go_wp2
    go_end0
    exact ⟨rfl, balloc (Below.refl _ _) _⟩
  · have hwi : (what : Int) % 6 = 4 := by omega
    clear hw
    go_enter Try.func57, Try.ntmps57
    go_wp2
    go_end0
    exact ⟨rfl, balloc (Below.refl _ _) _⟩
  · have hwi : (what : Int) % 6 = 5 := by omega
    clear hw
    go_enter Try.func57, Try.ntmps57
    go_wp2
    go_end0
    exact ⟨rfl, balloc (Below.refl _ _) _⟩

set_option maxRecDepth 100000 in
set_option maxHeartbeats 4000000 in
theorem step_recv (nb : Nat) (e : Nat → Nat) (C : Nat → Value) (st : Nat → Lk.E) (L : Nat → Nat → Txts) (ρ : Nat → Nat) (what to at_ byte by_ : Nat) (text : ByteArray) (w : World) (hn : Mem w ρ nb e C st L) (hfine : C 8 = .bool true)
    (hwhat : what < 256) (hto : to < 256) (hat : at_ < 256) (hw : what % 6 = 3 ∨ what % 6 = 4) (k : Nat) (hk : to % 2 = k) (h0 : 0 < (L 0 k).length) (hsz : ∀ k, k < 2 → (L 0 k).length ≤ 1000 ∧ (L 2 k).length ≤ 1000 ∧ (st k).all.length < 5000) (hi : Lk.Inv (st k) (st (1 - k)))
    (p : Lk.Pk) (hg : Lk.Good (st k) (st (1 - k)) p) (X : List UInt8) (hX : X = bytesN 3 p) (hp : (L 0 k)[at_ % (L 0 k).length]? = some X) (hpl : X.length ≤ 1000) :
    Calls Try.prog 57 #[.pointer (some ⟨nb, 0, none⟩), .agg #[.int .u8 what, .int .u8 to, .string text, .int .u8 at_, .int .u8 byte, .int .u8 by_]] w fun en w' => en = .returned (.tuple #[]) ∧ ∃ ρ' C' o,
      Mem w' ρ' nb e C' (upd st k (Lk.got (st k) p)) (upd2 L 2 k (L 2 k ++ o)) ∧ C' 8 = .bool true ∧ Lk.told (Lk.got (st k) p) (st (1 - k)) = Lk.told (st k) (st (1 - k)) ++ o ∧ Xt ρ ρ' w.heap.size ∧ Fr (· < 11) ρ w w' := by
  have HX : Hid ((⟨X.toArray⟩ : ByteArray).data.toList = bytesN 3 p) := by show _ = _; rw [← hX]
  clear hX
  obtain ⟨i9, hi9, hz9, hs9, hb9⟩ := info_parts info9
  have hk2 : k < 2 := by omega
  have hti : (to : Int) % 2 = (k : Int) := by omega
  have hk0 : (0 : Int) ≤ (k : Int) := by omega
  have hk1 : (k : Int) < 2 := by omega
  have hHM : Hid (Mem w ρ nb e C st L) := hn
  have hnlt := hn.lt
  have hwn : w.heap.size ≠ nb := by omega
  have c0 : w.cell? ⟨nb, k, none⟩ = some (.pointer (some ⟨e k, 0, none⟩)) := by rw [← (hn.ptr k hk2).1]; exact (hn.cell k (by omega)).1
  have hS := hn.slot 0 k (by decide) hk2
  obtain ⟨g, off, cap, hCs, cx, hlen, hge⟩ : ∃ g off cap, C (2 + k) = .slice (some ⟨g, off, none⟩) (L 0 k).length cap ∧ w.cell? ⟨g, off + at_ % (L 0 k).length, none⟩ = some (.string ⟨X.toArray⟩) ∧ g < w.heap.size ∧ g ≠ e k := by
    rcases hS.2 with ⟨_, h⟩ | ⟨g, off, cap, hv, hρg, _, _, hg', hc, _⟩
    · omega
    · refine ⟨g, off, cap, hv, hc _ _ ?_, hg', fun h => by rw [h, (hn.ptr k hk2).2] at hρg; omega⟩
      rw [strsV, List.getElem?_map, hp]; rfl
  have c2 : w.cell? ⟨nb, 2 + k, none⟩ = some (.slice (some ⟨g, off, none⟩) (L 0 k).length cap) := by rw [← hCs]; exact (hn.cell (2 + k) (by omega)).1
  obtain ⟨q, hq⟩ : ∃ q, at_ % (L 0 k).length = q := ⟨_, rfl⟩
  have hql : q < (L 0 k).length := by rw [← hq]; exact Nat.mod_lt _ h0
  rw [hq] at cx
  have hL0 := (hsz k hk2).1
  generalize hN : (L 0 k).length = N at *
  have hqi : (at_ : Int) % (N : Int) = (q : Int) := by rw [← hq]; omega
  have hqi2 : (q : Int) < (N : Int) := by omega
  have hq0 : (0 : Int) ≤ (q : Int) := by omega
  have hNi : (0 : Int) < (N : Int) := by omega
  have hN0 : ((N : Int) == 0) = false := by simp; omega
  clear hN hS hCs hp hn hk
  have HQ := Lib.hid hq
  clear hq
  obtain ⟨W, HW⟩ : ∃ W : World, Hid (W = (w.alloc (.cells #[.int .u8 what, .int .u8 to, .string text, .int .u8 at_, .int .u8 byte, .int .u8 by_] 96)).drew) := ⟨_, rfl⟩
  have hel : e k < w.heap.size := by
    obtain ⟨pv, hrow, _⟩ := hHM.out.ends k hk2
    exact lt_of_block hrow
  have HEK : Hid (xt ρ w.heap.size 99 (e k) ≠ 3 + k) := by
    show _ ≠ _
    rw [xt_old hel, (hHM.out.ptr k hk2).2]; omega
  have HMW : Hid (Mem (w.alloc (.cells #[.int .u8 what, .int .u8 to, .string text, .int .u8 at_, .int .u8 byte, .int .u8 by_] 96)).drew (xt ρ w.heap.size 99) nb e C st L) := hHM.out.below (balloc (Below.refl _ _) _).drew (Xt.xt _ _ _)
  have HEN := Lib.hid (HMW.out.ends k hk2)
  have hne1 : e k ≠ nb := by
    intro h
    have h1 := (hHM.out.ptr k hk2).2
    rw [h, hHM.out.tag] at h1
    omega
  have hne2 : e k ≠ w.heap.size := by omega
  have HS0 : Hid ((w.alloc (.cells #[.int .u8 what, .int .u8 to, .string text, .int .u8 at_, .int .u8 byte, .int .u8 by_] 96)).drew.cell? ⟨nb, k, none⟩ = some (.pointer (some ⟨e k, 0, none⟩)) ∧ (w.alloc (.cells #[.int .u8 what, .int .u8 to, .string text, .int .u8 at_, .int .u8 byte, .int .u8 by_] 96)).drew.cell? ⟨nb, 2 + k, none⟩ = some (.slice (some ⟨g, off, none⟩) N cap) ∧ (w.alloc (.cells #[.int .u8 what, .int .u8 to, .string text, .int .u8 at_, .int .u8 byte, .int .u8 by_] 96)).drew.cell? ⟨g, off + q, none⟩ = some (.string ⟨X.toArray⟩) ∧ (w.alloc (.cells #[.int .u8 what, .int .u8 to, .string text, .int .u8 at_, .int .u8 byte, .int .u8 by_] 96)).drew.cell? ⟨w.heap.size, 3, none⟩ = some (.int .u8 at_)) := by
    refine ⟨?_, ?_, ?_, ?_⟩
    · exact (World.cell?_alloc_lt _ _ _ hnlt).trans c0
    · exact (World.cell?_alloc_lt _ _ _ hnlt).trans c2
    · exact (World.cell?_alloc_lt _ _ _ hlen).trans cx
    · show (w.alloc _).cell? _ = _
      rw [cell_of_row _ _ 3 _ 96 (0, 0) (heap_alloc_new w _)]; rfl
  have HK : Hid (∀ w1 w2 : World, w1.grownBy w2 (some (e k)) → (w1.cell? ⟨nb, k, none⟩ = some (.pointer (some ⟨e k, 0, none⟩)) ∧ w1.cell? ⟨nb, 2 + k, none⟩ = some (.slice (some ⟨g, off, none⟩) N cap) ∧ w1.cell? ⟨g, off + q, none⟩ = some (.string ⟨X.toArray⟩) ∧ w1.cell? ⟨w.heap.size, 3, none⟩ = some (.int .u8 at_)) →
      (w2.cell? ⟨nb, k, none⟩ = some (.pointer (some ⟨e k, 0, none⟩)) ∧ w2.cell? ⟨nb, 2 + k, none⟩ = some (.slice (some ⟨g, off, none⟩) N cap) ∧ w2.cell? ⟨g, off + q, none⟩ = some (.string ⟨X.toArray⟩) ∧ w2.cell? ⟨w.heap.size, 3, none⟩ = some (.int .u8 at_))) := by
    intro w1 w2 hgg ⟨h1, h2, h3, h4⟩
    exact ⟨hgg.cell h1 (by simpa using hne1.symm), hgg.cell h2 (by simpa using hne1.symm), hgg.cell h3 (by simpa using hge), hgg.cell h4 (by simpa using hne2.symm)⟩
  have HCall := Lib.hid (recv_end 3 (by decide) p (st k) (st (1 - k)) hg hi (by have := (hsz k hk2).2.2; omega) (by have := (hsz (1 - k) (by omega)).2.2; omega) ⟨X.toArray⟩ HX.out (by rw [size_mk]; omega) (e k) (xt ρ w.heap.size 99) (3 + k) HEK.out _ HEN.out)
  rcases hw with hw | hw
  · have hwi : (what : Int) % 6 = 3 := by omega
    clear hw
    go_enter Try.func57, Try.ntmps57
    go_wp2
    go_region_held (fun w' => w'.cell? ⟨nb, k, none⟩ = some (.pointer (some ⟨e k, 0, none⟩)) ∧ w'.cell? ⟨nb, 2 + k, none⟩ = some (.slice (some ⟨g, off, none⟩) N cap) ∧ w'.cell? ⟨g, off + q, none⟩ = some (.string ⟨X.toArray⟩) ∧ w'.cell? ⟨w.heap.size, 3, none⟩ = some (.int .u8 at_))
      (first | exact HS0.out | exact HK.out _ _ ‹_› ‹_›)
      (first | (go_at_call 60; refine HCall.out.mono ?_; rintro en w1 ⟨v, o, rfl, hT', HTD, hE', hgr⟩; have hT := Lib.hid hT'; have hE := Lib.hid hE'; clear hT' hE'))
    all_goals
      have hekk : xt ρ w.heap.size 99 (e k) = 1 + k := by rw [xt_old hel]; exact (hHM.out.ptr k hk2).2
      have hM1 : Mem w1 (xt ρ w.heap.size 99) nb e C (upd st k (Lk.got (st k) p)) L := HMW.out.turn k hk2 (fr_grown hgr (.inr hekk)) (Xt.refl _ _) hE.out (Lk.told_other (st k) (Lk.got (st k) p) (st (1 - k)) rfl).2
      have hS2 := hM1.slot 2 k (by decide) hk2
      obtain ⟨A2, cap2, hC2, _, _⟩ := hS2.form
      have c6 : w1.cell? ⟨nb, 6 + k, none⟩ = some (.slice A2 (L 2 k).length cap2) := by rw [← hC2]; exact (hM1.cell (6 + k) (by omega)).1
      have f6 : w1.frozen? ⟨nb, 6 + k, none⟩ = false := (hM1.cell (6 + k) (by omega)).2
      have c8 : w1.cell? ⟨nb, 8, none⟩ = some (.bool true) := by rw [← hfine]; exact (hM1.cell 8 (by omega)).1
      have f8 : w1.frozen? ⟨nb, 8, none⟩ = false := (hM1.cell 8 (by omega)).2
      have hFW : Fr (· < 11) ρ w (w.alloc (.cells #[.int .u8 what, .int .u8 to, .string text, .int .u8 at_, .int .u8 byte, .int .u8 by_] 96)).drew := ((Fr.refl _ _ _).alloc _).drew
      have HF1 : Hid (Fr (· < 11) ρ w w1) := hFW.trans (fr_grown hgr (by show xt ρ w.heap.size 99 (e k) < 11; rw [hekk]; omega)) (Xt.xt _ _ _)
      have hS2' := hS2
      rw [hC2] at hS2'
      have hL2 := (hsz k hk2).2.1
      have hnb1 := hM1.lt
      have hkne : ((6 + k : Nat) = 8) = False := by simp; omega
      have HM1 := Lib.hid hM1
      have HS2 := Lib.hid hS2
      have HC2 := Lib.hid hC2
      clear hM1 hS2 hC2 hFW hgr
      generalize hN2 : (L 2 k).length = N2 at *
      have HN2 := Lib.hid hN2
      clear hN2
      rcases told_new hT.out with ⟨rfl, rfl⟩ | ⟨m, g2, rfl, rfl, hg2, cg2⟩
      · go_wp2
        go_region_law (refine step_append_none rfl (.tmp 199) (.tmp 200) 90 rfl 9 i9 Try.underlying90 hi9 hs9 (Sl.drew hS2') (by simp [Act.eval]) (by simp [Act.eval]) ?_)
        all_goals
          go_wp2
          go_end0
          have hMd : Mem w1.drew (xt ρ w.heap.size 99) nb e C (upd st k (Lk.got (st k) p)) L := HM1.out.below (Below.refl _ _).drew (Xt.refl _ _)
          have hsM : Sl w1.drew (xt ρ w.heap.size 99) (5 + 2 * 2 + k) 1 (.slice A2 N2 cap2) (L 2 k ++ []).length (strsV (L 2 k ++ [])) := by
            rw [List.append_nil, HN2.out]
            exact hS2'
          refine ⟨rfl, _, _, [], (hMd.store 2 k (by decide) hk2 (Fr.refl _ _ _) (Xt.refl _ _) hsM).flag _, upd_same _ _ _, HTD.out, Xt.xt _ _ _, ?_⟩
          refine Fr.setCell (Fr.setCell HF1.out.drew _ _ ?_) _ _ ?_
          all_goals exact fun _ => by show ρ nb < 11; rw [hHM.out.tag]; decide
      · have hn2 : ∀ j u, [Value.string ⟨m.toArray⟩][j]? = some u → w1.drew.cell? ((⟨g2, 0, none⟩ : Addr).add j) = some u := by
          intro j u hu
          have e1 : (⟨g2, 0, none⟩ : Addr).add j = ⟨g2, j, none⟩ := by unfold Addr.add; split <;> simp_all
          match j, hu with
          | 0, hu =>
            rw [e1]
            simp at hu
            subst hu
            exact cg2
        have HN2' := Lib.hid hn2
        clear hn2
        have htg : xt ρ w.heap.size 99 nb = 0 := HM1.out.tag
        go_wp2
        go_region_law (refine step_append_sl rfl (.tmp 199) (.tmp 200) 90 rfl 9 i9 _ 16 Try.underlying90 hi9 hz9 hs9 hb9 rfl (by decide) (Sl.drew hS2') (by simp [Act.eval]) ⟨g2, 0, none⟩ 1 1 [.string ⟨m.toArray⟩] (by simp [Act.eval]) rfl HN2'.out (one1 _) (by unfold maxLen; omega) (by omega) ?_; intro v' w2 hsl' hfr'; have hblk := hfr'.block nb hnb1 (by rw [htg]; omega); have c6' : w2.cell? ⟨nb, 6 + k, none⟩ = some (.slice A2 N2 cap2) := (by rw [World.cell?_of_block (a := ⟨nb, 6 + k, none⟩) hblk]; exact c6); have f6' : w2.frozen? ⟨nb, 6 + k, none⟩ = false := (by rw [World.frozen?_of_block (a := ⟨nb, 6 + k, none⟩) hblk]; exact f6); have c8' : w2.cell? ⟨nb, 8, none⟩ = some (.bool true) := (by rw [World.cell?_of_block (a := ⟨nb, 8, none⟩) hblk]; exact c8); have f8' : w2.frozen? ⟨nb, 8, none⟩ = false := (by rw [World.frozen?_of_block (a := ⟨nb, 8, none⟩) hblk]; exact f8); clear hblk; obtain ⟨A', cap', hv', _, _⟩ := hsl'.form; subst hv')
        all_goals
          go_wp2
          go_end0
          have hMd : Mem w1.drew (xt ρ w.heap.size 99) nb e C (upd st k (Lk.got (st k) p)) L := HM1.out.below (Below.refl _ _).drew (Xt.refl _ _)
          have hsM : Sl w2 (xt (xt ρ w.heap.size 99) w1.drew.heap.size (5 + 2 * 2 + k)) (5 + 2 * 2 + k) 1 (.slice A' (N2 + 1) cap') (L 2 k ++ [m]).length (strsV (L 2 k ++ [m])) := by
            rw [show strsV (L 2 k ++ [m]) = strsV (L 2 k) ++ [.string ⟨m.toArray⟩] by rw [strsV, List.map_append]; rfl, List.length_append, HN2.out]
            exact hsl'
          have hszw : w.heap.size ≤ w1.drew.heap.size := HF1.out.size
          refine ⟨rfl, _, _, [m], (hMd.store 2 k (by decide) hk2 hfr' (Xt.xt _ _ _) hsM).flag _, upd_same _ _ _, HTD.out, (Xt.xt ρ w.heap.size 99).trans (Xt.xt _ _ _) hszw, ?_⟩
          refine Fr.setCell (Fr.setCell (HF1.out.drew.trans (hfr'.mono (fun t ht => by omega)) (Xt.xt _ _ _)) _ _ ?_) _ _ ?_
          all_goals exact fun _ => by show ρ nb < 11; rw [hHM.out.tag]; decide
  · have hwi : (what : Int) % 6 = 4 := by omega
    clear hw
    go_enter Try.func57, Try.ntmps57
    go_wp2
    go_region_held (fun w' => w'.cell? ⟨nb, k, none⟩ = some (.pointer (some ⟨e k, 0, none⟩)) ∧ w'.cell? ⟨nb, 2 + k, none⟩ = some (.slice (some ⟨g, off, none⟩) N cap) ∧ w'.cell? ⟨g, off + q, none⟩ = some (.string ⟨X.toArray⟩) ∧ w'.cell? ⟨w.heap.size, 3, none⟩ = some (.int .u8 at_))
      (first | exact HS0.out | exact HK.out _ _ ‹_› ‹_›)
      (first | (go_at_call 60; refine HCall.out.mono ?_; rintro en w1 ⟨v, o, rfl, hT', HTD, hE', hgr⟩; have hT := Lib.hid hT'; have hE := Lib.hid hE'; clear hT' hE'))
    all_goals
      have hekk : xt ρ w.heap.size 99 (e k) = 1 + k := by rw [xt_old hel]; exact (hHM.out.ptr k hk2).2
      have hM1 : Mem w1 (xt ρ w.heap.size 99) nb e C (upd st k (Lk.got (st k) p)) L := HMW.out.turn k hk2 (fr_grown hgr (.inr hekk)) (Xt.refl _ _) hE.out (Lk.told_other (st k) (Lk.got (st k) p) (st (1 - k)) rfl).2
      have hS2 := hM1.slot 2 k (by decide) hk2
      obtain ⟨A2, cap2, hC2, _, _⟩ := hS2.form
      have c6 : w1.cell? ⟨nb, 6 + k, none⟩ = some (.slice A2 (L 2 k).length cap2) := by rw [← hC2]; exact (hM1.cell (6 + k) (by omega)).1
      have f6 : w1.frozen? ⟨nb, 6 + k, none⟩ = false := (hM1.cell (6 + k) (by omega)).2
      have c8 : w1.cell? ⟨nb, 8, none⟩ = some (.bool true) := by rw [← hfine]; exact (hM1.cell 8 (by omega)).1
      have f8 : w1.frozen? ⟨nb, 8, none⟩ = false := (hM1.cell 8 (by omega)).2
      have hFW : Fr (· < 11) ρ w (w.alloc (.cells #[.int .u8 what, .int .u8 to, .string text, .int .u8 at_, .int .u8 byte, .int .u8 by_] 96)).drew := ((Fr.refl _ _ _).alloc _).drew
      have HF1 : Hid (Fr (· < 11) ρ w w1) := hFW.trans (fr_grown hgr (by show xt ρ w.heap.size 99 (e k) < 11; rw [hekk]; omega)) (Xt.xt _ _ _)
      have hS2' := hS2
      rw [hC2] at hS2'
      have hL2 := (hsz k hk2).2.1
      have hnb1 := hM1.lt
      have hkne : ((6 + k : Nat) = 8) = False := by simp; omega
      have HM1 := Lib.hid hM1
      have HS2 := Lib.hid hS2
      have HC2 := Lib.hid hC2
      clear hM1 hS2 hC2 hFW hgr
      generalize hN2 : (L 2 k).length = N2 at *
      have HN2 := Lib.hid hN2
      clear hN2
      rcases told_new hT.out with ⟨rfl, rfl⟩ | ⟨m, g2, rfl, rfl, hg2, cg2⟩
      · go_wp2
        go_region_law (refine step_append_none rfl (.tmp 199) (.tmp 200) 90 rfl 9 i9 Try.underlying90 hi9 hs9 (Sl.drew hS2') (by simp [Act.eval]) (by simp [Act.eval]) ?_)
        all_goals
          go_wp2
          go_end0
          have hMd : Mem w1.drew (xt ρ w.heap.size 99) nb e C (upd st k (Lk.got (st k) p)) L := HM1.out.below (Below.refl _ _).drew (Xt.refl _ _)
          have hsM : Sl w1.drew (xt ρ w.heap.size 99) (5 + 2 * 2 + k) 1 (.slice A2 N2 cap2) (L 2 k ++ []).length (strsV (L 2 k ++ [])) := by
            rw [List.append_nil, HN2.out]
            exact hS2'
          refine ⟨rfl, _, _, [], (hMd.store 2 k (by decide) hk2 (Fr.refl _ _ _) (Xt.refl _ _) hsM).flag _, upd_same _ _ _, HTD.out, Xt.xt _ _ _, ?_⟩
          refine Fr.setCell (Fr.setCell HF1.out.drew _ _ ?_) _ _ ?_
          all_goals exact fun _ => by show ρ nb < 11; rw [hHM.out.tag]; decide
      · have hn2 : ∀ j u, [Value.string ⟨m.toArray⟩][j]? = some u → w1.drew.cell? ((⟨g2, 0, none⟩ : Addr).add j) = some u := by
          intro j u hu
          have e1 : (⟨g2, 0, none⟩ : Addr).add j = ⟨g2, j, none⟩ := by unfold Addr.add; split <;> simp_all
          match j, hu with
          | 0, hu =>
            rw [e1]
            simp at hu
            subst hu
            exact cg2
        have HN2' := Lib.hid hn2
        clear hn2
        have htg : xt ρ w.heap.size 99 nb = 0 := HM1.out.tag
        go_wp2
        go_region_law (refine step_append_sl rfl (.tmp 199) (.tmp 200) 90 rfl 9 i9 _ 16 Try.underlying90 hi9 hz9 hs9 hb9 rfl (by decide) (Sl.drew hS2') (by simp [Act.eval]) ⟨g2, 0, none⟩ 1 1 [.string ⟨m.toArray⟩] (by simp [Act.eval]) rfl HN2'.out (one1 _) (by unfold maxLen; omega) (by omega) ?_; intro v' w2 hsl' hfr'; have hblk := hfr'.block nb hnb1 (by rw [htg]; omega); have c6' : w2.cell? ⟨nb, 6 + k, none⟩ = some (.slice A2 N2 cap2) := (by rw [World.cell?_of_block (a := ⟨nb, 6 + k, none⟩) hblk]; exact c6); have f6' : w2.frozen? ⟨nb, 6 + k, none⟩ = false := (by rw [World.frozen?_of_block (a := ⟨nb, 6 + k, none⟩) hblk]; exact f6); have c8' : w2.cell? ⟨nb, 8, none⟩ = some (.bool true) := (by rw [World.cell?_of_block (a := ⟨nb, 8, none⟩) hblk]; exact c8); have f8' : w2.frozen? ⟨nb, 8, none⟩ = false := (by rw [World.frozen?_of_block (a := ⟨nb, 8, none⟩) hblk]; exact f8); clear hblk; obtain ⟨A', cap', hv', _, _⟩ := hsl'.form; subst hv')
        all_goals
          go_wp2
          go_end0
          have hMd : Mem w1.drew (xt ρ w.heap.size 99) nb e C (upd st k (Lk.got (st k) p)) L := HM1.out.below (Below.refl _ _).drew (Xt.refl _ _)
          have hsM : Sl w2 (xt (xt ρ w.heap.size 99) w1.drew.heap.size (5 + 2 * 2 + k)) (5 + 2 * 2 + k) 1 (.slice A' (N2 + 1) cap') (L 2 k ++ [m]).length (strsV (L 2 k ++ [m])) := by
            rw [show strsV (L 2 k ++ [m]) = strsV (L 2 k) ++ [.string ⟨m.toArray⟩] by rw [strsV, List.map_append]; rfl, List.length_append, HN2.out]
            exact hsl'
          have hszw : w.heap.size ≤ w1.drew.heap.size := HF1.out.size
          refine ⟨rfl, _, _, [m], (hMd.store 2 k (by decide) hk2 hfr' (Xt.xt _ _ _) hsM).flag _, upd_same _ _ _, HTD.out, (Xt.xt ρ w.heap.size 99).trans (Xt.xt _ _ _) hszw, ?_⟩
          refine Fr.setCell (Fr.setCell (HF1.out.drew.trans (hfr'.mono (fun t ht => by omega)) (Xt.xt _ _ _)) _ _ ?_) _ _ ?_
          all_goals exact fun _ => by show ρ nb < 11; rw [hHM.out.tag]; decide
end Go.Proofs.Ytominjooffecnaa.WLk
