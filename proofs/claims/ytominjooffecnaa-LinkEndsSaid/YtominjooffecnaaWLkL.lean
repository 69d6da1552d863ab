/- A step of the net in which a packet comes with a byte turned (layer 24). -/
import Derived.Test.YtominjooffecnaaWLkJ
import Derived.Lib.ConvBytes
namespace Go.Proofs.Ytominjooffecnaa.WLk
open Go.RowKit Kn

theorem turn_bytes (s : List UInt8) (q b : Nat) (hq : q < (Crc.seal_ s).length) (hb : b < 256) (hb0 : b ≠ 0) :
    Crc.openN ((Crc.seal_ s).set q (toU8 (((Crc.seal_ s)[q].toNat ^^^ b : Nat) : Int))) = ([], 5) := by
  rw [List.set_eq_take_append_cons_drop, if_pos hq]
  refine Crc.open_turned _ _ hq _ (fun x => hb0 ?_)
  have hu := (Crc.seal_ s)[q].toNat_lt
  generalize (Crc.seal_ s)[q] = y at *
  have h2 := congrArg UInt8.toNat x
  have hx : y.toNat ^^^ b < 256 := Nat.xor_lt_two_pow (n := 8) hu hb
  unfold toU8 at h2
  rw [UInt8.toNat_ofNat', Int.toNat_natCast, Nat.mod_eq_of_lt (by omega)] at h2
  have h3 : y.toNat ^^^ b = y.toNat ^^^ 0 := by rw [Nat.xor_zero]; exact h2
  exact Crc.xor_cancel_left h3

set_option maxRecDepth 100000 in
set_option maxHeartbeats 4000000 in
theorem step_zero (nb : Nat) (e : Nat → Nat) (C : Nat → Value) (st : Nat → Lk.E) (L : Nat → Nat → Txts) (ρ : Nat → Nat) (what to at_ byte by_ : Nat) (text : ByteArray) (w : World) (hn : Mem w ρ nb e C st L)
    (hwhat : what < 256) (hto : to < 256) (hw : what % 6 = 5) (hby : by_ = 0) (k : Nat) (hk : to % 2 = k) (h0 : 0 < (L 0 k).length) (hl : (L 0 k).length ≤ 1000) :
    Calls Try.prog 57 #[.pointer (some ⟨nb, 0, none⟩), .agg #[.int .u8 what, .int .u8 to, .string text, .int .u8 at_, .int .u8 byte, .int .u8 by_]] w fun en w' => en = .returned (.tuple #[]) ∧ Below w.heap.size w w' := by
  subst hby
  have hk2 : k < 2 := by omega
  have hti : (to : Int) % 2 = (k : Int) := by omega
  have hk0 : (0 : Int) ≤ (k : Int) := by omega
  have hk1 : (k : Int) < 2 := by omega
  have hwi : (what : Int) % 6 = 5 := by omega
  have hS := hn.slot 0 k (by decide) hk2
  obtain ⟨A, cap, hCs, _, _⟩ := hS.form
  have c2 : w.cell? ⟨nb, 2 + k, none⟩ = some (.slice A (L 0 k).length cap) := by rw [← hCs]; exact (hn.cell (2 + k) (by omega)).1
  have hnlt := hn.lt
  have hwn : w.heap.size ≠ nb := by omega
  clear hn hS hCs hk hw
  generalize (L 0 k).length = N at *
  have hNi : (0 : Int) < (N : Int) := by omega
  go_enter Try.func57, Try.ntmps57
  go_wp2
  go_end0
  exact ⟨rfl, balloc (Below.refl _ _) _⟩

set_option maxRecDepth 100000 in
set_option maxHeartbeats 4000000 in
theorem step_turn (nb : Nat) (e : Nat → Nat) (C : Nat → Value) (st : Nat → Lk.E) (L : Nat → Nat → Txts) (ρ : Nat → Nat) (what to at_ byte by_ : Nat) (text : ByteArray) (w : World) (hn : Mem w ρ nb e C st L) (hfine : C 8 = .bool true)
    (hwhat : what < 256) (hto : to < 256) (hat : at_ < 256) (hbyte : byte < 256) (hby : by_ < 256) (hw : what % 6 = 5) (hb0 : 0 < by_) (k : Nat) (hk : to % 2 = k) (h0 : 0 < (L 0 k).length) (hl : (L 0 k).length ≤ 1000)
    (p : Lk.Pk) (X : List UInt8) (hX : X = bytesN 3 p) (hp : (L 0 k)[at_ % (L 0 k).length]? = some X) (hpl : X.length ≤ 1000) :
    Calls Try.prog 57 #[.pointer (some ⟨nb, 0, none⟩), .agg #[.int .u8 what, .int .u8 to, .string text, .int .u8 at_, .int .u8 byte, .int .u8 by_]] w fun en w' => en = .returned (.tuple #[]) ∧ ∃ ρ' C',
      Mem w' ρ' nb e C' st L ∧ C' 8 = .bool true ∧ Xt ρ ρ' w.heap.size ∧ Fr (· < 11) ρ w w' := by
  have hk2 : k < 2 := by omega
  have hti : (to : Int) % 2 = (k : Int) := by omega
  have hk0 : (0 : Int) ≤ (k : Int) := by omega
  have hk1 : (k : Int) < 2 := by omega
  have hwi : (what : Int) % 6 = 5 := by omega
  have hHM : Hid (Mem w ρ nb e C st L) := hn
  have hnlt := hn.lt
  have hwn : w.heap.size ≠ nb := by omega
  have c0 : w.cell? ⟨nb, k, none⟩ = some (.pointer (some ⟨e k, 0, none⟩)) := by rw [← (hn.ptr k hk2).1]; exact (hn.cell k (by omega)).1
  have hS := hn.slot 0 k (by decide) hk2
  obtain ⟨g, off, cap, hCs, cx, hlen⟩ : ∃ g off cap, C (2 + k) = .slice (some ⟨g, off, none⟩) (L 0 k).length cap ∧ w.cell? ⟨g, off + at_ % (L 0 k).length, none⟩ = some (.string ⟨X.toArray⟩) ∧ g < w.heap.size := by
    rcases hS.2 with ⟨_, h⟩ | ⟨g, off, cap, hv, hρg, _, _, hg', hc, _⟩
    · omega
    · refine ⟨g, off, cap, hv, hc _ _ ?_, hg'⟩
      rw [strsV, List.getElem?_map, hp]; rfl
  have c2 : w.cell? ⟨nb, 2 + k, none⟩ = some (.slice (some ⟨g, off, none⟩) (L 0 k).length cap) := by rw [← hCs]; exact (hn.cell (2 + k) (by omega)).1
  obtain ⟨q, hq⟩ : ∃ q, at_ % (L 0 k).length = q := ⟨_, rfl⟩
  have hql : q < (L 0 k).length := by rw [← hq]; exact Nat.mod_lt _ h0
  rw [hq] at cx
  generalize hN : (L 0 k).length = N at *
  have hqi : (at_ : Int) % (N : Int) = (q : Int) := by rw [← hq]; omega
  have hqi2 : (q : Int) < (N : Int) := by omega
  have hq0 : (0 : Int) ≤ (q : Int) := by omega
  have hNi : (0 : Int) < (N : Int) := by omega
  have hN0 : ((N : Int) == 0) = false := by simp; omega
  have hbi : (0 : Int) < (by_ : Int) := by omega
  clear hN hS hCs hp hn hk
  have HQ := Lib.hid hq
  clear hq
  have HX := Lib.hid hX
  have hXpos : 0 < X.length := by rw [hX, bytesN, Crc.seal_length]; omega
  clear hX
  obtain ⟨t, ht⟩ : ∃ t : ByteArray, t = ⟨X.toArray⟩ := ⟨_, rfl⟩
  have hts : t.size = X.length := by rw [ht, size_mk]
  have HT := Lib.hid ht
  rw [← ht] at cx
  clear ht
  have HTS := Lib.hid hts
  have htpos : 0 < t.size := by omega
  have htl : t.size ≤ 1000 := by omega
  clear hts hXpos
  obtain ⟨q', hq'⟩ : ∃ q', byte % t.size = q' := ⟨_, rfl⟩
  have hq'l : q' < t.size := by rw [← hq']; exact Nat.mod_lt _ (by omega)
  have hqi' : (byte : Int) % (t.size : Int) = (q' : Int) := by rw [← hq']; exact (Int.natCast_emod byte t.size).symm
  have hqi2' : (q' : Int) < (t.size : Int) := by omega
  have hq0' : (0 : Int) ≤ (q' : Int) := by omega
  have hti' : ((t.size : Int) == 0) = false := by rw [beq_eq_false_iff_ne]; omega
  have hts0 : (t.size = 0) = False := eq_false (by omega)
  clear hq'
  obtain ⟨z, hz⟩ : ∃ z, (t.data.toList.getD q' 0).toNat = z := ⟨_, rfl⟩
  have hzu : z < 256 := by rw [← hz]; exact (t.data.toList.getD q' 0).toNat_lt
  have hxo := u8_xor_nat z by_ hzu hby
  have HZ := Lib.hid hz
  clear hz
  obtain ⟨W0, HW0⟩ : ∃ W0 : World, W0 = (w.alloc (.cells #[.int .u8 what, .int .u8 to, .string text, .int .u8 at_, .int .u8 byte, .int .u8 by_] 96)).drew := ⟨_, rfl⟩
  have hB0 : Below w.heap.size w W0 := by rw [HW0]; exact (balloc (Below.refl _ _) _).drew
  have hs0 : W0.heap.size = w.heap.size + 1 := by rw [HW0]; show (w.alloc _).heap.size = _; simp
  have hbox : W0.heap[w.heap.size]? = some (.cells #[.int .u8 what, .int .u8 to, .string text, .int .u8 at_, .int .u8 byte, .int .u8 by_] 96 (0, 0)) := by rw [HW0]; exact heap_alloc_new w _
  obtain ⟨W1, G, cap1, hrun, HG, hB1, h4, h5, hzc, hzf, hrd⟩ : ∃ (W1 : World) (G cap1 : Nat), (convert 9 52 (.string t)).run Try.prog (w.alloc (.cells #[.int .u8 what, .int .u8 to, .string text, .int .u8 at_, .int .u8 byte, .int .u8 by_] 96)).drew = .ok (.slice (some ⟨G, 0, none⟩) t.size cap1) W1 ∧
      Hid (G = w.heap.size + 1 ∧ G < W1.heap.size) ∧ Below w.heap.size w W1 ∧ W1.cell? ⟨w.heap.size, 4, none⟩ = some (.int .u8 byte) ∧ W1.cell? ⟨w.heap.size, 5, none⟩ = some (.int .u8 by_) ∧ W1.cell? ⟨G, q', none⟩ = some (.int .u8 z) ∧ W1.frozen? ⟨G, q', none⟩ = false ∧
      Hid (∀ j, j < t.size → W1.cell? ⟨G, j, none⟩ = some (.int .u8 (t.data.toList.getD j 0).toNat)) := by
    have hbx : (Lib.bytesWorld W0 5 t).heap[w.heap.size]? = some (.cells #[.int .u8 what, .int .u8 to, .string text, .int .u8 at_, .int .u8 byte, .int .u8 by_] 96 (0, 0)) := by
      rw [Lib.bytesWorld_at_old _ _ _ _ (by omega)]; exact hbox
    refine ⟨Lib.bytesWorld W0 5 t, W0.heap.size, _, by rw [HW0]; exact Lib.run_convert_string_bytes _ 9 52 5 t Try.underlying9 Try.underlying52 Try.underlying5, ⟨hs0, by rw [Lib.bytesWorld_size]; omega⟩, ?_, ?_, ?_, ?_, ?_, ?_⟩
    · refine ⟨?_, ?_, ?_, by rw [Lib.bytesWorld_size]; omega, fun k hk => ?_⟩
      · rw [← hB0.os]; simp [Lib.bytesWorld, World.freeze, World.alloc, World.drew, -World.alloc_eq, -World.drew_eq]
      · rw [← hB0.tape]; simp [Lib.bytesWorld, World.freeze, World.alloc, World.drew, -World.alloc_eq, -World.drew_eq]
      · rw [← hB0.output]; simp [Lib.bytesWorld, World.freeze, World.alloc, World.drew, -World.alloc_eq, -World.drew_eq]
      · rw [Lib.bytesWorld_at_old _ _ _ _ (by omega)]; exact hB0.block k hk
    · rw [cell_of_row _ _ 4 _ _ _ hbx]; rfl
    · rw [cell_of_row _ _ 5 _ _ _ hbx]; rfl
    · rw [Lib.bytesWorld_cell _ _ _ _ hq'l, HZ.out]
    · have hnew := Lib.bytesWorld_at_new W0 5 t
      have hbs : t.size ≤ (Lib.bytesCells W0 5 t).size := by simp [Lib.bytesCells]
      simp [World.frozen?, hnew]
      omega
    · exact fun j hj => Lib.bytesWorld_cell _ _ _ _ hj
  clear HW0 hB0 hs0 hbox
  have c8 : W1.cell? ⟨nb, 8, none⟩ = some (.bool true) := by rw [hB1.cell hnlt, ← hfine]; exact (hHM.out.cell 8 (by omega)).1
  have f8 : W1.frozen? ⟨nb, 8, none⟩ = false := by rw [World.frozen?_of_block (a := ⟨nb, 8, none⟩) (hB1.block nb hnlt)]; exact (hHM.out.cell 8 (by omega)).2
  have c0' : W1.cell? ⟨nb, k, none⟩ = some (.pointer (some ⟨e k, 0, none⟩)) := by rw [hB1.cell hnlt]; exact c0
  have hGn : G ≠ nb := by have := HG.out.1; omega
  have hGn' : nb ≠ G := fun h => hGn h.symm
  have hGw : G ≠ w.heap.size := by have := HG.out.1; omega
  have hGw' : w.heap.size ≠ G := fun h => hGw h.symm
  obtain ⟨t', hT', HO, hrun2⟩ : ∃ t' : ByteArray, Hid (t' = ⟨(X.set q' (toU8 ((z ^^^ by_ : Nat) : Int))).toArray⟩) ∧ Hid (Crc.openN t'.data.toList = ([], 5) ∧ t'.size ≤ 1000) ∧ (convert 52 9 (.slice (some ⟨G, 0, none⟩) t.size cap1)).run Try.prog (W1.setCell ⟨G, q', none⟩ (.int .u8 (z ^^^ by_ : Nat))).drew.drew = .ok (.string t') (W1.setCell ⟨G, q', none⟩ (.int .u8 (z ^^^ by_ : Nat))).drew.drew := by
    have hqX : q' < X.length := by rw [← HTS.out]; exact hq'l
    have htX : t.data.toList = X := by rw [HT.out]
    have hgd : t.data.toList.getD q' 0 = X[q'] := by
      rw [htX, List.getD_eq_getElem?_getD, List.getElem?_eq_getElem hqX]; rfl
    refine ⟨_, rfl, ⟨?_, by rw [size_mk, List.length_set]; exact hpl⟩, ?_⟩
    · have hz := HZ.out
      rw [hgd] at hz
      rw [← hz]
      have hx := HX.out
      rw [bytesN] at hx
      subst hx
      exact turn_bytes _ q' by_ _ hby (by omega)
    have hlen : (X.set q' (toU8 ((z ^^^ by_ : Nat) : Int))).length = t.size := by rw [List.length_set, HTS.out]
    rw [← hlen]
    refine run_convert_bytes_back (P := Try.prog) _ 52 9 5 ⟨G, 0, none⟩ cap1 _ Try.underlying52 Try.underlying5 Try.underlying9 (fun j hj => ?_)
    show (W1.setCell ⟨G, q', none⟩ (.int .u8 (z ^^^ by_ : Nat))).cell? _ = _
    rw [hlen] at hj
    rw [show (⟨G, 0, none⟩ : Addr).add j = ⟨G, j, none⟩ by rw [Addr.add_lit, Nat.zero_add]]
    by_cases hjq : q' = j
    · subst hjq
      rw [World.cell?_setCell_same' _ _ _ (by rw [hzc]; rfl), List.getElem_set_self, toU8_toNat (by omega) (by have := Nat.xor_lt_two_pow (n := 8) hzu hby; omega)]
    · rw [World.cell?_setCell_other _ _ _ _ (by intro e2; injection e2 with _ e3; exact hjq e3), hrd.out j hj, List.getElem_set_ne hjq]
      have hjX : j < X.length := by rw [← HTS.out]; exact hj
      rw [htX, List.getD_eq_getElem?_getD, List.getElem?_eq_getElem hjX]; rfl
  go_enter Try.func57, Try.ntmps57
  go_wp2
  go_region
  all_goals
    go_wp2
    go_region
    all_goals
      go_wp2
      go_region_with (go_at_call 60; refine (recv_bad t' 5 (.inr rfl) HO.out.1 HO.out.2 (e k) _).mono ?_; rintro en w2 ⟨rfl, hb2⟩)
      all_goals
        have hBw : Below w.heap.size w w2 := bnext (hB1.setCell (by show w.heap.size ≤ G; have := HG.out.1; omega) _).drew.drew hb2
        have c8' : w2.cell? ⟨nb, 8, none⟩ = some (.bool true) := by rw [hBw.cell hnlt, ← hfine]; exact (hHM.out.cell 8 (by omega)).1
        have f8' : w2.frozen? ⟨nb, 8, none⟩ = false := by rw [World.frozen?_of_block (a := ⟨nb, 8, none⟩) (hBw.block nb hnlt)]; exact (hHM.out.cell 8 (by omega)).2
        clear hb2
        go_wp2
        go_end0
        refine ⟨rfl, ρ, _, (hHM.out.below hBw (Xt.refl _ _)).flag _, upd_same _ _ _, Xt.refl _ _, ?_⟩
        exact Fr.setCell (Fr.of_below hBw) _ _ (fun _ => by show ρ nb < 11; rw [hHM.out.tag]; decide)
end Go.Proofs.Ytominjooffecnaa.WLk
