/- What layer 7's reference computes at Get. -/
import Derived.Test.YtominjooffecnaaWPkC
import Derived.Test.YtominjooffecnaaWPkB
namespace Go.Proofs.Ytominjooffecnaa.WPk
open Go.RowKit Kn

/-- what the reference's Get gives: the line, and how many bytes it has -/
def getPR (s : List UInt8) : Pkt.Ln × Nat := match Pkt.get s with
  | none => (⟨0, []⟩, 0)
  | some (p, r) => (p, s.length - r.length)

theorem take_fig (s : List UInt8) (k : Nat) (hk : k < 65536) : (s.take 4 == Pkt.figures k) = decide (Pkt.number s = some k) := by
  rw [Bool.eq_iff_iff]
  simp only [beq_iff_eq, decide_eq_true_eq]
  constructor
  · intro h
    have : s = Pkt.figures k ++ s.drop 4 := by rw [← h, List.take_append_drop]
    rw [this]
    exact Pkt.number_figures k hk _
  · intro h
    exact (Pkt.figures_number h).2.2.1

theorem getPR_bad {s : List UInt8} (h : Pkt.number s = none ∨ ∃ n, Pkt.number s = some n ∧ n ≠ 0 ∧ n ≠ 1 ∧ (n < 4 ∨ 1004 < n ∨ s.length < n)) : getPR s = (⟨0, []⟩, 0) := by
  rw [getPR, Pkt.get]
  rcases h with h | ⟨n, h, h0, h1, hb⟩
  · rw [h]
  · rw [h]
    simp only
    rw [if_neg h0, if_neg h1, if_pos hb]

theorem ret_getR {k : Int} {a : ByteArray} {n : Int} {k' : Int} {a' : ByteArray} {n' : Int} (h1 : k = k') (h2 : a.data.toList = a'.data.toList) (h4 : n = n') :
    Ending.returned (.tuple #[.agg #[.int .i64 k, .string a], .int .i64 n]) = .returned (.tuple #[.agg #[.int .i64 k', .string a'], .int .i64 n']) := by
  have e : a = a' := by rw [← Lib.mk_data a, ← Lib.mk_data a', h2]
  rw [h1, e, h4]

theorem at3 (s : ByteArray) (c : UInt8) (h : 3 < s.size) (ht : s.data.toList.take 4 = [48, 48, 48, c]) : s[3] = c := by
  have h1 : (s.data.toList.take 4)[3]? = some c := by rw [ht]; rfl
  rw [List.getElem?_take, if_pos (by omega), List.getElem?_eq_getElem (by simpa using h)] at h1
  exact Option.some.inj h1

theorem take4 (s : ByteArray) : (s.extract 0 4).toList = s.data.toList.take 4 := by rw [Lib.extract_toList]; simp

/-- the result's own cells stay behind calls -/
theorem kept67 {w wr w1 : World} (hbel : Below (w.heap.size + 1) (w.alloc (.cells #[.int .i64 0, .string ⟨#[]⟩] 67)) wr) (hb1 : Below wr.heap.size wr w1) :
    w1.cell? ⟨w.heap.size, 0, none⟩ = some (.int .i64 0) ∧ w1.cell? ⟨w.heap.size, 1, none⟩ = some (.string ⟨#[]⟩) ∧ w1.frozen? ⟨w.heap.size, 0, none⟩ = false ∧ w1.frozen? ⟨w.heap.size, 1, none⟩ = false ∧ w.heap.size < w1.heap.size := by
  have hsz := hbel.size
  simp at hsz
  have h0 : (w.alloc (.cells #[.int .i64 0, .string ⟨#[]⟩] 67)).heap[w.heap.size]? = some (.cells #[.int .i64 0, .string ⟨#[]⟩] 67 (0, 0)) := heap_alloc_new w _
  have h1 : w1.heap[w.heap.size]? = some (.cells #[.int .i64 0, .string ⟨#[]⟩] 67 (0, 0)) := by
    rw [hb1.block _ (by omega), hbel.block _ (by omega)]
    exact h0
  refine ⟨?_, ?_, ?_, ?_, by have := hb1.size; omega⟩
  · rw [cell_of_row _ _ 0 _ 67 (0, 0) h1]; rfl
  · rw [cell_of_row _ _ 1 _ 67 (0, 0) h1]; rfl
  · exact frozen_of_row _ _ 0 _ 67 h1
  · exact frozen_of_row _ _ 1 _ 67 h1

set_option maxRecDepth 100000 in
set_option maxHeartbeats 4000000 in
theorem getR_any (s : ByteArray) (w : World) (hs : s.size ≤ 9223372036854775807) :
    Calls Try.prog 46 #[.string s] w fun e w' => e = .returned (.tuple #[.agg #[.int .i64 (getPR s.data.toList).1.kind, .string ⟨(getPR s.data.toList).1.load.toArray⟩], .int .i64 (getPR s.data.toList).2]) ∧ Below w.heap.size w w' := by
  have hsl : s.data.toList.length = s.size := by simp
  by_cases h4 : s.size < 4
  · have HE := Lib.hid (getPR_bad (s := s.data.toList) (.inl (number_short _ (by omega))))
    clear hsl
    go_enter Try.func46, Try.ntmps46
    go_wp2
    refine bodyPost_ret (v := .tuple #[.agg #[.int .i64 0, .string ⟨#[]⟩], .int .i64 0]) (by simp [results, Try.results46, go_sem]) rfl ⟨?_, (Below.refl _ _).alloc (Nat.le_refl _) _⟩
    rw [HE.out]; rfl
  · have h4' : (4 : Int) ≤ s.size := by omega
    have hx := take4 s
    have f0 : (s.data.toList.take 4 == [48, 48, 48, 48]) = decide (Pkt.number s.data.toList = some 0) := take_fig _ 0 (by omega)
    have f1 : (s.data.toList.take 4 == [48, 48, 48, 49]) = decide (Pkt.number s.data.toList = some 1) := take_fig _ 1 (by omega)
    by_cases n0 : Pkt.number s.data.toList = some 0
    · rw [decide_eq_true n0] at f0
      have HE := Lib.hid (show getPR s.data.toList = (⟨1, []⟩, 4) by
        rw [getPR, Pkt.get, n0]
        simp only [if_true, List.length_drop, hsl]
        rw [show s.size - (s.size - 4) = 4 from by omega])
      have h3 := at3 s 48 (by omega) ((Pkt.figures_number n0).2.2.1)
      have h34 : (3 : Int) < s.size := by omega
      have h3t : ((s[3]'(by omega)).toNat : Int) = 48 := by rw [h3]; rfl
      clear f1 n0 h3
      go_enter Try.func46, Try.ntmps46
      go_wp2
      refine bodyPost_ret (v := .tuple #[.agg #[.int .i64 1, .string ⟨#[]⟩], .int .i64 4]) (by simp [results, Try.results46, go_sem]) rfl ⟨?_, (Below.refl _ _).alloc (Nat.le_refl _) _⟩
      rw [HE.out]; rfl
    · by_cases n1 : Pkt.number s.data.toList = some 1
      · rw [decide_eq_false n0] at f0
        rw [decide_eq_true n1] at f1
        have HE := Lib.hid (show getPR s.data.toList = (⟨2, []⟩, 4) by
          rw [getPR, Pkt.get, n1]
          simp only [hsl]
          rw [if_neg (by omega)]
          simp only [if_true, hsl, List.length_drop]
          rw [show s.size - (s.size - 4) = 4 from by omega])
        have h3 := at3 s 49 (by omega) ((Pkt.figures_number n1).2.2.1)
        have h34 : (3 : Int) < s.size := by omega
        have h3t : ((s[3]'(by omega)).toNat : Int) = 49 := by rw [h3]; rfl
        clear n0 n1 h3
        go_enter Try.func46, Try.ntmps46
        go_wp2
        refine bodyPost_ret (v := .tuple #[.agg #[.int .i64 2, .string ⟨#[]⟩], .int .i64 4]) (by simp [results, Try.results46, go_sem]) rfl ⟨?_, (Below.refl _ _).alloc (Nat.le_refl _) _⟩
        rw [HE.out]; rfl
      · rw [decide_eq_false n0] at f0
        rw [decide_eq_false n1] at f1
        have HN : Hid (Pkt.number s.data.toList ≠ some 0 ∧ Pkt.number s.data.toList ≠ some 1) := ⟨n0, n1⟩
        have HSL := Lib.hid hsl
        clear n0 n1 hsl
        go_enter Try.func46, Try.ntmps46
        go_wp2
        go_loopw [4] (fun i wr => ∃ k : Nat, 4 ≤ k ∧ k ≤ 1005 ∧ i = .int .i64 k ∧ Hid (∀ m, 4 ≤ m → m < k → Pkt.number s.data.toList ≠ some m) ∧ Below (w.heap.size + 1) (w.alloc (.cells #[.int .i64 0, .string ⟨#[]⟩] 67)) wr) (fun i _ => 1005 - (intOf i).toNat)
        case atStart => exact ⟨4, by omega, by omega, rfl, fun m h1 h2 => absurd h1 (by omega), Below.refl _ _⟩
        case round =>
          obtain ⟨k, hk4, hk1, rfl, HK, hbel⟩ := hrel
          have hbW : Below w.heap.size w wr := ((Below.refl _ _).alloc (Nat.le_refl _) (.cells #[.int .i64 0, .string ⟨#[]⟩] 67)).trans (hbel.mono (by omega))
          by_cases hin : k ≤ s.size ∧ k ≤ 1004
          · obtain ⟨hin1, hin2⟩ := hin
            have hin3 : (k : Int) ≤ s.size := by omega
            have hin4 : (4 : Int) ≤ k := by omega
            have ff := take_fig s.data.toList k (by omega)
            by_cases hk : Pkt.number s.data.toList = some k
            · rw [decide_eq_true hk] at ff
              have HE := Lib.hid (show getPR s.data.toList = (⟨0, (s.data.toList.drop 4).take (k - 4)⟩, k) by
                rw [getPR, Pkt.get, hk]
                simp only
                rw [if_neg (by omega), if_neg (by omega), if_neg (by rw [HSL.out]; omega)]
                simp only [List.length_drop, HSL.out]
                rw [show s.size - (s.size - k) = k from by omega])
              clear hk
              go_wp2
              go_region_with (go_at_call 70; refine (figuresRI _ (by omega) (by omega) _).mono ?_; rintro e w1 ⟨rfl, hb1⟩)
              all_goals
                obtain ⟨c0, c1, z0, z1, hz⟩ := kept67 (wr := wr.drew) hbel.drew hb1
                have hbe := bnext hbW.drew hb1
                go_wp2
                refine bodyPost_ret (v := .tuple #[.agg #[.int .i64 0, .string (s.extract 4 k)], .int .i64 k]) (by simp [results, Try.results46, go_sem, c0, c1]) rfl ⟨?_, (hbe.setCell (p := ⟨w.heap.size, 0, none⟩) (Nat.le_refl _) _).setCell (p := ⟨w.heap.size, 1, none⟩) (Nat.le_refl _) _⟩
                rw [HE.out]
                exact ret_getR rfl (by rw [Lib.extract_data]) rfl
            · rw [decide_eq_false hk] at ff
              have HK2 : Hid (∀ m, 4 ≤ m → m < k + 1 → Pkt.number s.data.toList ≠ some m) := by
                intro m h1 h2
                by_cases e : m = k
                · subst e; exact hk
                · exact HK.out m h1 (by omega)
              clear hk HK
              go_wp2
              go_region_with (go_at_call 70; refine (figuresRI _ (by omega) (by omega) _).mono ?_; rintro e w1 ⟨rfl, hb1⟩)
              all_goals
                have hbe : Below (w.heap.size + 1) (w.alloc (.cells #[.int .i64 0, .string ⟨#[]⟩] 67)) w1 := hbel.drew.trans (hb1.mono (by have := hbel.size; simp at this ⊢; omega))
                clear hb1
                go_wp2
                go_roundw
                case rel => exact ⟨k + 1, by omega, by omega, by go_num, HK2, hbe⟩
                case measure => simp [intOf]; omega
          · have HE := Lib.hid (getPR_bad (s := s.data.toList) (by
              cases hn : Pkt.number s.data.toList with
              | none => exact .inl rfl
              | some n =>
                refine .inr ⟨n, rfl, fun e => HN.out.1 (by rw [hn, e]), fun e => HN.out.2 (by rw [hn, e]), ?_⟩
                by_cases h1 : n < 4
                · exact .inl h1
                · have h2 : ¬ n < k := fun h => HK.out n (by omega) h hn
                  rw [HSL.out]
                  omega))
            obtain ⟨c0, c1, z0, z1, hz⟩ := kept67 (wr := wr) hbel (Below.refl _ _)
            have hin' : s.size < k ∨ (k ≤ s.size ∧ 1004 < k) := by omega
            clear HK hin
            rcases hin' with hin | ⟨hin, hin2⟩
            all_goals
              go_wp2
              refine bodyPost_ret (v := .tuple #[.agg #[.int .i64 0, .string ⟨#[]⟩], .int .i64 0]) (by simp [results, Try.results46, go_sem, c0, c1]) rfl ⟨?_, (hbW.setCell (p := ⟨w.heap.size, 0, none⟩) (Nat.le_refl _) _).setCell (p := ⟨w.heap.size, 1, none⟩) (Nat.le_refl _) _⟩
              rw [HE.out]; rfl
end Go.Proofs.Ytominjooffecnaa.WPk
