/- What a packet that came is read as; what an end takes (layer 24). -/
import Derived.Test.YtominjooffecnaaWLkB
namespace Go.Proofs.Ytominjooffecnaa.WLk
open Go.RowKit Kn

theorem getN_put (n : Nat) (hn : n < 18446744073709551616) (r : List UInt8) : WVi.getN (Vi.put n ++ r) = (n, r, 0) := by
  rw [WVi.getN, Vi.get_put n hn r]
theorem takeN_text (t r : List UInt8) (ht : t.length ≤ 200) (hr : r.length ≤ 1000) : WVi.takeN (Vi.text t ++ r) = (t, r, 0) := by
  have h := (Vi.take_iff (Vi.text t ++ r) t r (by have := Vi.put_le t.length; rw [Vi.text]; simp; omega)).2 rfl
  rw [WVi.takeN, h]
theorem row_of_alloc {w w' : World} {cs : Array Value} {t : TypeId} (h : Below (w.alloc (.cells cs t)).heap.size (w.alloc (.cells cs t)) w') : w'.heap[w.heap.size]? = some (.cells cs t (0, 0)) := by
  rw [h.block _ (by simp)]
  exact heap_alloc_new w _
theorem results_cell_tmp {P : Program} {fn : Func} {p u : Tmp} {ty : TypeId} (h : fn.results = #[.cell p ty, .tmp u]) (tmps : Array Value) (w : World) (g : Nat) (t : TypeId) (cs : Array Value) (fr : Nat × Nat) (d : TypeDesc)
    (hp : tmps.getD p undef = .pointer (some ⟨g, 0, none⟩)) (hg : w.heap[g]? = some (.cells cs t fr))
    (hu : P.underlying ty = some d) (hd : (match d with | .struct _ | .array _ _ => true | _ => false) = true) (hi : (P.info? ty).map (·.size) = some cs.size) :
    (results fn tmps).run P w = .ok (.tuple #[.agg cs, tmps.getD u undef]) w := by
  have hp' : tmps[p]?.getD undef = .pointer (some ⟨g, 0, none⟩) := by simpa using hp
  simp [results, h, hp', asAddr, run_loadVar_row w g t ty cs fr d hg hu hd hi]
theorem size126 : (Try.prog.info? 126).map (·.size) = some 5 := by kernel_rfl
theorem set5 {w : World} {g : Nat} {t : TypeId} {c0 c1 c2 c3 c4 : Value} (h : w.heap[g]? = some (.cells #[c0, c1, c2, c3, c4] t (0, 0))) (d0 d1 d2 d3 d4 : Value) :
    (((((w.setCell ⟨g, 0, none⟩ d0).setCell ⟨g, 1, none⟩ d1).setCell ⟨g, 2, none⟩ d2).setCell ⟨g, 3, none⟩ d3).setCell ⟨g, 4, none⟩ d4).heap[g]? = some (.cells #[d0, d1, d2, d3, d4] t (0, 0)) := by
  have h1 := heap_setCell_same w g 0 _ _ d0 h
  have h2 := heap_setCell_same _ g 1 _ _ d1 h1
  have h3 := heap_setCell_same _ g 2 _ _ d2 h2
  have h4 := heap_setCell_same _ g 3 _ _ d3 h3
  exact heap_setCell_same _ g 4 _ _ d4 h4
theorem tail_ext (b : UInt8) (R : List UInt8) : (⟨(b :: R).toArray⟩ : ByteArray).extract 1 (R.length + 1) = ⟨R.toArray⟩ := by
  rw [← Lib.mk_data ((⟨(b :: R).toArray⟩ : ByteArray).extract 1 (R.length + 1)), Lib.extract_data]
  simp

set_option maxRecDepth 100000 in
set_option maxHeartbeats 2000000 in
theorem read_good (c : Nat) (hc : c < 18446744073709551616) (p : Lk.Pk) (hn : p.n < 18446744073709551616) (hk : p.took < 18446744073709551616) (ht : p.part.text.length ≤ 200) (s : ByteArray) (hs : s.data.toList = bytesN c p) (hsz : s.size ≤ 1000) (w : World) :
    Calls Try.prog 74 #[.string s] w fun e w' => e = .returned (.tuple #[.agg #[.int .u64 c, .int .u64 p.n, .string ⟨p.part.text.toArray⟩, .bool p.part.last, .int .u64 p.took], .bool true]) ∧ Below w.heap.size w w' := by
  obtain ⟨n, ⟨t, l⟩, k⟩ := p
  simp only at hn hk ht ⊢
  have HO : Hid (Crc.openN s.data.toList = (Vi.put c ++ (Vi.put n ++ ((if l then 1 else 0) :: (Vi.text t ++ (Vi.put k ++ [])))), 0)) := by
    show _ = _
    rw [hs, bytesN, Crc.open_seal, raw, List.append_nil]
  have hp1 := Vi.put_le c
  have hp2 := Vi.put_le n
  have hp3 := Vi.put_le k
  have hp4 : (Vi.text t).length ≤ 210 := by
    have := Vi.put_le t.length
    rw [Vi.text]; simp; omega
  have H3 := Lib.hid (takeN_text t (Vi.put k ++ []) ht (by simp; omega))
  have H4 : Hid (WVi.getN (Vi.put k) = (k, [], 0)) := by
    have := getN_put k hk []
    rw [List.append_nil] at this
    exact this
  have hl3 : (Vi.text t ++ (Vi.put k ++ [])).length ≤ 300 := by simp; omega
  clear hs
  generalize hR3 : Vi.text t ++ (Vi.put k ++ []) = R3 at *
  clear hR3
  cases l
  · have H1 := Lib.hid (getN_put c hc (Vi.put n ++ (0 :: R3)))
    have H2 := Lib.hid (getN_put n hn (0 :: R3))
    have HT := Lib.hid (tail_ext 0 R3)
    have hbt : (((⟨(0 :: R3).toArray⟩ : ByteArray)[0]'(by rw [size_mk]; simp)).toNat : Int) = 0 := rfl
    go_enter Try.func74, Try.ntmps74
    go_wp2_with fail
    refine (WCrc.open_any s _ (by omega)).mono ?_
    rintro e w1 ⟨rfl, hb1⟩
    rw [HO.out]
    have hB1 := hb1
    clear hb1
    go_wp2_with fail
    refine (WVi.get_any _ (by rw [size_mk]; simp; omega) _).mono ?_
    rintro e w2 ⟨rfl, hb2⟩
    simp only []
    rw [H1.out]
    have hB2 := bnext hB1 hb2
    clear hB1 hb2
    go_wp2_with fail
    refine (WVi.get_any _ (by rw [size_mk]; simp; omega) _).mono ?_
    rintro e w3 ⟨rfl, hb3⟩
    rw [H2.out]
    have hB3 := bnext hB2 hb3
    clear hB2 hb3
    go_wp2_with fail
    rw [HT.out]
    refine (WVi.take_any _ (by rw [size_mk]; omega) _).mono ?_
    rintro e w4 ⟨rfl, hb4⟩
    rw [H3.out]
    have hB4 := bnext hB3 hb4
    clear hB3 hb4
    go_wp2_with fail
    refine (WVi.get_any _ (by rw [size_mk]; omega) _).mono ?_
    rintro e w5 ⟨rfl, hb5⟩
    rw [H4.out]
    have hB5 := bnext hB4 hb5
    clear hB4 hb5
    have hrow := row_of_alloc hB5
    have hBw := bnext (balloc (Below.refl _ w) _) hB5
    have c0 : w5.cell? ⟨w.heap.size, 0, none⟩ = some (.int .u64 0) := by rw [cell_of_row _ _ 0 _ _ _ hrow]; rfl
    have c1 : w5.cell? ⟨w.heap.size, 1, none⟩ = some (.int .u64 0) := by rw [cell_of_row _ _ 1 _ _ _ hrow]; rfl
    have c2 : w5.cell? ⟨w.heap.size, 2, none⟩ = some (.string ⟨#[]⟩) := by rw [cell_of_row _ _ 2 _ _ _ hrow]; rfl
    have c3 : w5.cell? ⟨w.heap.size, 3, none⟩ = some (.bool false) := by rw [cell_of_row _ _ 3 _ _ _ hrow]; rfl
    have c4 : w5.cell? ⟨w.heap.size, 4, none⟩ = some (.int .u64 0) := by rw [cell_of_row _ _ 4 _ _ _ hrow]; rfl
    have f0 : w5.frozen? ⟨w.heap.size, 0, none⟩ = false := by simp [World.frozen?, hrow]
    have f1 : w5.frozen? ⟨w.heap.size, 1, none⟩ = false := by simp [World.frozen?, hrow]
    have f2 : w5.frozen? ⟨w.heap.size, 2, none⟩ = false := by simp [World.frozen?, hrow]
    have f3 : w5.frozen? ⟨w.heap.size, 3, none⟩ = false := by simp [World.frozen?, hrow]
    have f4 : w5.frozen? ⟨w.heap.size, 4, none⟩ = false := by simp [World.frozen?, hrow]
    have HR := Lib.hid hrow
    clear hrow hB5
    go_wp2
    (try simp only [Exit.inBlock, Exit.then])
    refine bodyPost_ret (results_cell_tmp rfl _ _ w.heap.size 126 _ (0, 0) _ rfl (set5 HR.out _ _ _ _ _) Try.underlying126 rfl size126) rfl ?_
    refine ⟨rfl, ?_⟩
    exact ((((hBw.setCell (Nat.le_refl _) _).setCell (Nat.le_refl _) _).setCell (Nat.le_refl _) _).setCell (Nat.le_refl _) _).setCell (Nat.le_refl _) _
  · have H1 := Lib.hid (getN_put c hc (Vi.put n ++ (1 :: R3)))
    have H2 := Lib.hid (getN_put n hn (1 :: R3))
    have HT := Lib.hid (tail_ext 1 R3)
    have hbt : (((⟨(1 :: R3).toArray⟩ : ByteArray)[0]'(by rw [size_mk]; simp)).toNat : Int) = 1 := rfl
    go_enter Try.func74, Try.ntmps74
    go_wp2_with fail
    refine (WCrc.open_any s _ (by omega)).mono ?_
    rintro e w1 ⟨rfl, hb1⟩
    rw [HO.out]
    have hB1 := hb1
    clear hb1
    go_wp2_with fail
    refine (WVi.get_any _ (by rw [size_mk]; simp; omega) _).mono ?_
    rintro e w2 ⟨rfl, hb2⟩
    simp only []
    rw [H1.out]
    have hB2 := bnext hB1 hb2
    clear hB1 hb2
    go_wp2_with fail
    refine (WVi.get_any _ (by rw [size_mk]; simp; omega) _).mono ?_
    rintro e w3 ⟨rfl, hb3⟩
    rw [H2.out]
    have hB3 := bnext hB2 hb3
    clear hB2 hb3
    go_wp2_with fail
    rw [HT.out]
    refine (WVi.take_any _ (by rw [size_mk]; omega) _).mono ?_
    rintro e w4 ⟨rfl, hb4⟩
    rw [H3.out]
    have hB4 := bnext hB3 hb4
    clear hB3 hb4
    go_wp2_with fail
    refine (WVi.get_any _ (by rw [size_mk]; omega) _).mono ?_
    rintro e w5 ⟨rfl, hb5⟩
    rw [H4.out]
    have hB5 := bnext hB4 hb5
    clear hB4 hb5
    have hrow := row_of_alloc hB5
    have hBw := bnext (balloc (Below.refl _ w) _) hB5
    have c0 : w5.cell? ⟨w.heap.size, 0, none⟩ = some (.int .u64 0) := by rw [cell_of_row _ _ 0 _ _ _ hrow]; rfl
    have c1 : w5.cell? ⟨w.heap.size, 1, none⟩ = some (.int .u64 0) := by rw [cell_of_row _ _ 1 _ _ _ hrow]; rfl
    have c2 : w5.cell? ⟨w.heap.size, 2, none⟩ = some (.string ⟨#[]⟩) := by rw [cell_of_row _ _ 2 _ _ _ hrow]; rfl
    have c3 : w5.cell? ⟨w.heap.size, 3, none⟩ = some (.bool false) := by rw [cell_of_row _ _ 3 _ _ _ hrow]; rfl
    have c4 : w5.cell? ⟨w.heap.size, 4, none⟩ = some (.int .u64 0) := by rw [cell_of_row _ _ 4 _ _ _ hrow]; rfl
    have f0 : w5.frozen? ⟨w.heap.size, 0, none⟩ = false := by simp [World.frozen?, hrow]
    have f1 : w5.frozen? ⟨w.heap.size, 1, none⟩ = false := by simp [World.frozen?, hrow]
    have f2 : w5.frozen? ⟨w.heap.size, 2, none⟩ = false := by simp [World.frozen?, hrow]
    have f3 : w5.frozen? ⟨w.heap.size, 3, none⟩ = false := by simp [World.frozen?, hrow]
    have f4 : w5.frozen? ⟨w.heap.size, 4, none⟩ = false := by simp [World.frozen?, hrow]
    have HR := Lib.hid hrow
    clear hrow hB5
    go_wp2
    (try simp only [Exit.inBlock, Exit.then])
    refine bodyPost_ret (results_cell_tmp rfl _ _ w.heap.size 126 _ (0, 0) _ rfl (set5 HR.out _ _ _ _ _) Try.underlying126 rfl size126) rfl ?_
    refine ⟨rfl, ?_⟩
    exact ((((hBw.setCell (Nat.le_refl _) _).setCell (Nat.le_refl _) _).setCell (Nat.le_refl _) _).setCell (Nat.le_refl _) _).setCell (Nat.le_refl _) _

set_option maxRecDepth 100000 in
set_option maxHeartbeats 2000000 in
theorem read_bad (s : ByteArray) (x : Nat) (hx : x = 2 ∨ x = 5) (hs : Crc.openN s.data.toList = ([], x)) (hsz : s.size ≤ 1000) (w : World) :
    Calls Try.prog 74 #[.string s] w fun e w' => e = .returned (.tuple #[.agg #[.int .u64 0, .int .u64 0, .string ⟨#[]⟩, .bool false, .int .u64 0], .bool false]) ∧ Below w.heap.size w w' := by
  have H1 : Hid (WVi.getN [] = (0, [], 2)) := by show _ = _; decide +kernel
  have HO := Lib.hid hs
  clear hs
  go_enter Try.func74, Try.ntmps74
  go_wp2_with fail
  refine (WCrc.open_any s _ (by omega)).mono ?_
  rintro e w1 ⟨rfl, hb1⟩
  rw [HO.out]
  have hB1 := hb1
  clear hb1
  rcases hx with rfl | rfl
  all_goals
    go_wp2_with fail
    refine (WVi.get_any _ (by decide) _).mono ?_
    rintro e w2 ⟨rfl, hb2⟩
    rw [H1.out]
    have hB2 := bnext hB1 hb2
    clear hB1 hb2
    go_wp2_with fail
    refine (WVi.get_any _ (by decide) _).mono ?_
    rintro e w3 ⟨rfl, hb3⟩
    rw [H1.out]
    have hB3 := bnext hB2 hb3
    clear hB2 hb3
    have hrow := row_of_alloc hB3
    have hBw := bnext (balloc (Below.refl _ w) _) hB3
    have c0 : w3.cell? ⟨w.heap.size, 0, none⟩ = some (.int .u64 0) := by rw [cell_of_row _ _ 0 _ _ _ hrow]; rfl
    have c1 : w3.cell? ⟨w.heap.size, 1, none⟩ = some (.int .u64 0) := by rw [cell_of_row _ _ 1 _ _ _ hrow]; rfl
    have c2 : w3.cell? ⟨w.heap.size, 2, none⟩ = some (.string ⟨#[]⟩) := by rw [cell_of_row _ _ 2 _ _ _ hrow]; rfl
    have c3 : w3.cell? ⟨w.heap.size, 3, none⟩ = some (.bool false) := by rw [cell_of_row _ _ 3 _ _ _ hrow]; rfl
    have c4 : w3.cell? ⟨w.heap.size, 4, none⟩ = some (.int .u64 0) := by rw [cell_of_row _ _ 4 _ _ _ hrow]; rfl
    have f0 : w3.frozen? ⟨w.heap.size, 0, none⟩ = false := by simp [World.frozen?, hrow]
    have f1 : w3.frozen? ⟨w.heap.size, 1, none⟩ = false := by simp [World.frozen?, hrow]
    have f2 : w3.frozen? ⟨w.heap.size, 2, none⟩ = false := by simp [World.frozen?, hrow]
    have f3 : w3.frozen? ⟨w.heap.size, 3, none⟩ = false := by simp [World.frozen?, hrow]
    have f4 : w3.frozen? ⟨w.heap.size, 4, none⟩ = false := by simp [World.frozen?, hrow]
    have HR := Lib.hid hrow
    clear hrow hB3
    go_wp2
    (try simp only [Exit.inBlock, Exit.then])
    refine bodyPost_ret (results_cell_tmp rfl _ _ w.heap.size 126 _ (0, 0) _ rfl (set5 HR.out _ _ _ _ _) Try.underlying126 rfl size126) rfl ?_
    refine ⟨rfl, ?_⟩
    exact ((((hBw.setCell (Nat.le_refl _) _).setCell (Nat.le_refl _) _).setCell (Nat.le_refl _) _).setCell (Nat.le_refl _) _).setCell (Nat.le_refl _) _
end Go.Proofs.Ytominjooffecnaa.WLk
