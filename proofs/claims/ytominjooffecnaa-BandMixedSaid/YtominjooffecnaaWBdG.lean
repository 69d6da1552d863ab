/- What layer 8's Get computes. -/
import Derived.Test.YtominjooffecnaaWBdP
import Derived.Handy
namespace Go.Proofs.Ytominjooffecnaa.WBd
open Go.RowKit Kn WPk

def okB (p : Pkt.Ln) : Bool := decide (p.kind = 0) && decide (2 ≤ p.load.length) && decide (p.load.length ≤ 1000) && decide (1 ≤ (p.load.headD 0).toNat) && decide ((p.load.headD 0).toNat ≤ 3)
def strm (b : Nat) (L : List Pkt.Ln) : List UInt8 := L.flatMap fun p => if (p.load.headD 0).toNat = b then p.load.tail else []
def getN (L : List Pkt.Ln) : List UInt8 × List UInt8 × Nat := if L.all okB then (if strm 3 L = [] then (strm 1 L, strm 2 L, 0) else ([], [], 13)) else ([], [], 2)

theorem getN_bad (L : List Pkt.Ln) (k : Nat) (h : k < L.length) (hf : okB L[k] = false) : getN L = ([], [], 2) := by
  have : L.all okB = false := by
    rw [List.all_eq_false]
    exact ⟨L[k], List.getElem_mem h, by rw [hf]; simp⟩
  rw [getN, if_neg (by rw [this]; simp)]
theorem strm_succ (b : Nat) (L : List Pkt.Ln) (k : Nat) (h : k < L.length) : strm b (L.take (k + 1)) = strm b (L.take k) ++ (if (L[k].load.headD 0).toNat = b then L[k].load.tail else []) := by
  rw [List.take_succ_eq_append_getElem h, strm, List.flatMap_append, List.flatMap_cons, List.flatMap_nil, List.append_nil]; rfl
theorem allB_succ (L : List Pkt.Ln) (k : Nat) (h : k < L.length) (ha : (L.take k).all okB = true) (hf : okB L[k] = true) : (L.take (k + 1)).all okB = true := by
  rw [List.take_succ_eq_append_getElem h, List.all_append, ha]
  simp [hf]

set_option maxRecDepth 100000 in
set_option maxHeartbeats 2000000 in
theorem get_any (A : Option Addr) (cap : Nat) (L : List Pkt.Ln) (w : World) (hL : L.length ≤ 10000) (hcap : L.length ≤ cap) (hcm : cap ≤ 9223372036854775807) (hp : Pk w A L) (hload : ∀ i, (h : i < L.length) → (L[i]).load.length ≤ 5000) :
    Calls Try.prog 23 #[.slice A L.length cap] w fun e w' => e = .returned (.tuple #[.string ⟨(getN L).1.toArray⟩, .string ⟨(getN L).2.1.toArray⟩, .int .i64 (getN L).2.2]) ∧ Below w.heap.size w w' := by
  have HL := Lib.hid hload
  clear hload
  go_enter Try.func23, Try.ntmps23
  go_wp2
  go_loopw [10] (fun iv wr => ∃ (k : Nat) (x1 x2 x3 : ByteArray), iv = .int .i64 k ∧ k ≤ L.length ∧ wr.heap[w.heap.size]? = some (.cells #[.string ⟨#[]⟩, .string x1, .string x2, .string x3] 105 (0, 0)) ∧
      x1.size ≤ 5000 * k ∧ x2.size ≤ 5000 * k ∧ x3.size ≤ 5000 * k ∧ Below w.heap.size w wr ∧
      Hid (x1.data.toList = strm 1 (L.take k) ∧ x2.data.toList = strm 2 (L.take k) ∧ x3.data.toList = strm 3 (L.take k) ∧ (L.take k).all okB = true)) (fun iv _ => L.length - (intOf iv).toNat)
  case atStart =>
    exact ⟨0, ⟨#[]⟩, ⟨#[]⟩, ⟨#[]⟩, rfl, Nat.zero_le _, heap_alloc_new w _, Nat.zero_le _, Nat.zero_le _, Nat.zero_le _, balloc (Below.refl _ _) _, rfl, rfl, rfl, rfl⟩
  case round =>
    obtain ⟨k, x1, x2, x3, rfl, hk, hrow, z1, z2, z3, hbel, HO⟩ := hrel
    have hgw : w.heap.size < wr.heap.size := lt_of_block hrow
    have c1 : wr.cell? ⟨w.heap.size, 1, none⟩ = some (.string x1) := by rw [cell_of_row _ _ _ _ _ _ hrow]; rfl
    have c2 : wr.cell? ⟨w.heap.size, 2, none⟩ = some (.string x2) := by rw [cell_of_row _ _ _ _ _ _ hrow]; rfl
    have c3 : wr.cell? ⟨w.heap.size, 3, none⟩ = some (.string x3) := by rw [cell_of_row _ _ _ _ _ _ hrow]; rfl
    have f1 : wr.frozen? ⟨w.heap.size, 1, none⟩ = false := by simp [World.frozen?, hrow]
    have f2 : wr.frozen? ⟨w.heap.size, 2, none⟩ = false := by simp [World.frozen?, hrow]
    have f3 : wr.frozen? ⟨w.heap.size, 3, none⟩ = false := by simp [World.frozen?, hrow]
    have HR := Lib.hid hrow
    clear hrow
    by_cases hlt : k < L.length
    · have hp' := hp.below hbel
      rcases hp' with h0 | ⟨b, off, rfl, hbw, hc⟩
      · rw [h0] at hlt; simp at hlt
      · obtain ⟨hc1, hc2⟩ := hc k hlt
        have hlt' : (k : Int) < (L.length : Int) := by omega
        have hk0 : (0 : Int) ≤ (k : Int) := by omega
        have hl5 := HL.out k hlt
        clear hc
        obtain ⟨q, l, hql⟩ : ∃ q l, L[k] = ⟨q, l⟩ := ⟨_, _, rfl⟩
        rw [hql] at hc1 hc2 hl5
        simp only at hc1 hc2 hl5
        by_cases hq : q = 0
        · subst hq
          by_cases h2 : l.length < 2
          · have HE := Lib.hid (getN_bad L k hlt (by rw [hql]; simp [okB]; omega))
            clear hql
            go_wp2
            all_goals
              go_ret3
              exact ⟨by rw [HE.out]; rfl, balloc hbel _⟩
          · by_cases h1000 : 1000 < l.length
            · have HE := Lib.hid (getN_bad L k hlt (by rw [hql]; simp [okB]; omega))
              clear hql
              go_wp2
              all_goals
                go_ret3
                exact ⟨by rw [HE.out]; rfl, balloc hbel _⟩
            · have hl0 : 0 < (⟨l.toArray⟩ : ByteArray).size := by rw [size_mk]; omega
              have hhd : l.head?.getD 0 = (⟨l.toArray⟩ : ByteArray)[0] := by
                cases l with
                | nil => simp at h2
                | cons a l => rfl
              have hS : ∀ b : Nat, True := fun _ => trivial
              have hcc : (⟨l.toArray⟩ : ByteArray)[0].toNat < 1 ∨ 3 < (⟨l.toArray⟩ : ByteArray)[0].toNat ∨ (⟨l.toArray⟩ : ByteArray)[0].toNat = 1 ∨ (⟨l.toArray⟩ : ByteArray)[0].toNat = 2 ∨ (⟨l.toArray⟩ : ByteArray)[0].toNat = 3 := by omega
              clear hS
              rcases hcc with h0 | h0 | h0 | h0 | h0
              · have HE := Lib.hid (getN_bad L k hlt (by rw [hql]; simp [okB, hhd]; omega))
                clear hql hhd
                go_wp2
                all_goals
                  go_ret3
                  exact ⟨by rw [HE.out]; rfl, balloc hbel _⟩
              · have HE := Lib.hid (getN_bad L k hlt (by rw [hql]; simp [okB, hhd]; omega))
                clear hql hhd
                go_wp2
                all_goals
                  go_ret3
                  exact ⟨by rw [HE.out]; rfl, balloc hbel _⟩
              · have HO1 := HO.out.1
                have HO2 := HO.out.2.1
                have HO3 := HO.out.2.2.1
                have HG : Hid (strm 1 (L.take (k + 1)) = strm 1 (L.take k) ++ l.tail ∧ strm 2 (L.take (k + 1)) = strm 2 (L.take k) ++ [] ∧ strm 3 (L.take (k + 1)) = strm 3 (L.take k) ++ [] ∧ (L.take (k + 1)).all okB = true) := by
                  refine ⟨?_, ?_, ?_, allB_succ L k hlt HO.out.2.2.2 (by rw [hql]; simp [okB, hhd, h0]; omega)⟩
                  all_goals
                    rw [strm_succ _ L k hlt, hql]
                    simp [hhd, h0]
                have HHO := Lib.hid (And.intro HO1 (And.intro HO2 HO3))
                clear HO HO1 HO2 HO3 hql hhd
                have hlim : (9223372036854775807 < x1.size + (l.length - 1)) = False := by simp; omega
                go_wp2
                go_region
                all_goals
                  go_wp2
                  go_roundw
                  case rel =>
                    have hsz : ∀ a u, (wr.setCell a u).heap.size = wr.heap.size := fun a u => by simp
                    have HT : (⟨l.toArray⟩ : ByteArray).extract 1 l.length = ⟨l.tail.toArray⟩ := by
                      have e : ((⟨l.toArray⟩ : ByteArray).extract 1 (⟨l.toArray⟩ : ByteArray).size).data.toList = l.tail := by rw [ext_drop]; simp
                      rw [size_mk] at e
                      rw [← Lib.mk_data ((⟨l.toArray⟩ : ByteArray).extract 1 l.length), e]
                    rw [HT]
                    refine ⟨k + 1, _, x2, x3, by go_num, by omega, (heap_alloc_old _ _ (by rw [hsz]; exact hgw)).trans (heap_setCell_same wr _ _ _ _ _ HR.out), ?_, ?_, ?_, (balloc (hbel.setCell (Nat.le_refl _) _) _).drew, ?_⟩
                    all_goals try first | omega | (simp only [ByteArray.size_append, size_mk, List.length_tail]; omega)
                    refine ⟨?_, ?_, ?_, HG.out.2.2.2⟩
                    · rw [HG.out.1, ← HHO.out.1]; try simp
                    · rw [HG.out.2.1, ← HHO.out.2.1]; try simp
                    · rw [HG.out.2.2.1, ← HHO.out.2.2]; try simp
                  case measure => simp [intOf]; omega
              · have HO1 := HO.out.1
                have HO2 := HO.out.2.1
                have HO3 := HO.out.2.2.1
                have HG : Hid (strm 1 (L.take (k + 1)) = strm 1 (L.take k) ++ [] ∧ strm 2 (L.take (k + 1)) = strm 2 (L.take k) ++ l.tail ∧ strm 3 (L.take (k + 1)) = strm 3 (L.take k) ++ [] ∧ (L.take (k + 1)).all okB = true) := by
                  refine ⟨?_, ?_, ?_, allB_succ L k hlt HO.out.2.2.2 (by rw [hql]; simp [okB, hhd, h0]; omega)⟩
                  all_goals
                    rw [strm_succ _ L k hlt, hql]
                    simp [hhd, h0]
                have HHO := Lib.hid (And.intro HO1 (And.intro HO2 HO3))
                clear HO HO1 HO2 HO3 hql hhd
                have hlim : (9223372036854775807 < x2.size + (l.length - 1)) = False := by simp; omega
                go_wp2
                go_region
                all_goals
                  go_wp2
                  go_roundw
                  case rel =>
                    have hsz : ∀ a u, (wr.setCell a u).heap.size = wr.heap.size := fun a u => by simp
                    have HT : (⟨l.toArray⟩ : ByteArray).extract 1 l.length = ⟨l.tail.toArray⟩ := by
                      have e : ((⟨l.toArray⟩ : ByteArray).extract 1 (⟨l.toArray⟩ : ByteArray).size).data.toList = l.tail := by rw [ext_drop]; simp
                      rw [size_mk] at e
                      rw [← Lib.mk_data ((⟨l.toArray⟩ : ByteArray).extract 1 l.length), e]
                    rw [HT]
                    refine ⟨k + 1, x1, _, x3, by go_num, by omega, (heap_alloc_old _ _ (by rw [hsz]; exact hgw)).trans (heap_setCell_same wr _ _ _ _ _ HR.out), ?_, ?_, ?_, (balloc (hbel.setCell (Nat.le_refl _) _) _).drew, ?_⟩
                    all_goals try first | omega | (simp only [ByteArray.size_append, size_mk, List.length_tail]; omega)
                    refine ⟨?_, ?_, ?_, HG.out.2.2.2⟩
                    · rw [HG.out.1, ← HHO.out.1]; try simp
                    · rw [HG.out.2.1, ← HHO.out.2.1]; try simp
                    · rw [HG.out.2.2.1, ← HHO.out.2.2]; try simp
                  case measure => simp [intOf]; omega
              · have HO1 := HO.out.1
                have HO2 := HO.out.2.1
                have HO3 := HO.out.2.2.1
                have HG : Hid (strm 1 (L.take (k + 1)) = strm 1 (L.take k) ++ [] ∧ strm 2 (L.take (k + 1)) = strm 2 (L.take k) ++ [] ∧ strm 3 (L.take (k + 1)) = strm 3 (L.take k) ++ l.tail ∧ (L.take (k + 1)).all okB = true) := by
                  refine ⟨?_, ?_, ?_, allB_succ L k hlt HO.out.2.2.2 (by rw [hql]; simp [okB, hhd, h0]; omega)⟩
                  all_goals
                    rw [strm_succ _ L k hlt, hql]
                    simp [hhd, h0]
                have HHO := Lib.hid (And.intro HO1 (And.intro HO2 HO3))
                clear HO HO1 HO2 HO3 hql hhd
                have hlim : (9223372036854775807 < x3.size + (l.length - 1)) = False := by simp; omega
                go_wp2
                go_region
                all_goals
                  go_wp2
                  go_roundw
                  case rel =>
                    have hsz : ∀ a u, (wr.setCell a u).heap.size = wr.heap.size := fun a u => by simp
                    have HT : (⟨l.toArray⟩ : ByteArray).extract 1 l.length = ⟨l.tail.toArray⟩ := by
                      have e : ((⟨l.toArray⟩ : ByteArray).extract 1 (⟨l.toArray⟩ : ByteArray).size).data.toList = l.tail := by rw [ext_drop]; simp
                      rw [size_mk] at e
                      rw [← Lib.mk_data ((⟨l.toArray⟩ : ByteArray).extract 1 l.length), e]
                    rw [HT]
                    refine ⟨k + 1, x1, x2, _, by go_num, by omega, (heap_alloc_old _ _ (by rw [hsz]; exact hgw)).trans (heap_setCell_same wr _ _ _ _ _ HR.out), ?_, ?_, ?_, (balloc (hbel.setCell (Nat.le_refl _) _) _).drew, ?_⟩
                    all_goals try first | omega | (simp only [ByteArray.size_append, size_mk, List.length_tail]; omega)
                    refine ⟨?_, ?_, ?_, HG.out.2.2.2⟩
                    · rw [HG.out.1, ← HHO.out.1]; try simp
                    · rw [HG.out.2.1, ← HHO.out.2.1]; try simp
                    · rw [HG.out.2.2.1, ← HHO.out.2.2]; try simp
                  case measure => simp [intOf]; omega
        · have HE := Lib.hid (getN_bad L k hlt (by rw [hql]; simp [okB]; omega))
          clear hql
          go_wp2
          all_goals
            go_ret3
            exact ⟨by rw [HE.out]; rfl, balloc hbel _⟩
    · obtain rfl : k = L.length := by omega
      rw [List.take_length] at HO
      by_cases hx : x3 = ⟨#[]⟩
      · subst hx
        have HE := Lib.hid (show getN L = (x1.data.toList, x2.data.toList, 0) by rw [getN, if_pos HO.out.2.2.2, if_pos (by rw [← HO.out.2.2.1]), HO.out.1, HO.out.2.1])
        clear HO
        go_wp2
        go_region
        all_goals
          go_wp2
          go_ret3
          rw [HE.out]
          refine ⟨?_, hbel.drew⟩
          simp only [Lib.mk_data]
          rfl
      · obtain ⟨hn, hne⟩ := ne_empty hx
        have HE := Lib.hid (show getN L = ([], [], 13) by rw [getN, if_pos HO.out.2.2.2, if_neg (by rw [← HO.out.2.2.1]; exact hn)])
        clear HO hn hx
        go_wp2
        go_ret3
        exact ⟨by rw [HE.out]; rfl, hbel⟩
end Go.Proofs.Ytominjooffecnaa.WBd
