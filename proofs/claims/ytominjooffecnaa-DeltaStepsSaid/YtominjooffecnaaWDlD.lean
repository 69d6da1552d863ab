/- What the reference's Delta makes of steps: a text that is not long. -/
import Derived.Test.YtominjooffecnaaWDlL
import Derived.Test.YtominjooffecnaaWPkS
namespace Go.Proofs.Ytominjooffecnaa.WDl
open Go.RowKit Kn WVi

/-- a step that came in -/
structure Stp where
  at_ : Int
  n : Int
  text : List UInt8

/-- a slice of steps reads as L -/
def St (w : World) (A : Option Addr) (L : List Stp) : Prop :=
  L = [] ∨ ∃ b off, A = some ⟨b, off, none⟩ ∧ b < w.heap.size ∧ ∀ i (h : i < L.length), w.cell? ⟨b, off + i * 3, none⟩ = some (.int .i64 (L[i]).at_) ∧ w.cell? ⟨b, off + i * 3 + 1, none⟩ = some (.int .i64 (L[i]).n) ∧ w.cell? ⟨b, off + i * 3 + 2, none⟩ = some (.string ⟨(L[i]).text.toArray⟩)

theorem St.below {w w' : World} {A : Option Addr} {L : List Stp} (h : St w A L) (hb : Below w.heap.size w w') : St w' A L := by
  rcases h with h | ⟨b, off, hA, hlt, hc⟩
  · exact .inl h
  · refine .inr ⟨b, off, hA, Nat.lt_of_lt_of_le hlt hb.size, fun i hi => ?_⟩
    rw [hb.cell (p := ⟨b, off + i * 3, none⟩) hlt, hb.cell (p := ⟨b, off + i * 3 + 1, none⟩) hlt, hb.cell (p := ⟨b, off + i * 3 + 2, none⟩) hlt]
    exact hc i hi

theorem putR_le (n : Int) (h0 : 0 ≤ n) (hn : n < 18446744073709551616) (w : World) :
    Calls Try.prog 33 #[.int .u64 n] w fun e w' => ∃ t : ByteArray, e = .returned (.string t) ∧ t.size ≤ 10 ∧ Below w.heap.size w w' := by
  obtain ⟨m, rfl⟩ := Int.eq_ofNat_of_zero_le h0
  refine (putR_any m (by omega) w).mono ?_
  rintro e w1 ⟨rfl, hb⟩
  exact ⟨_, rfl, by rw [size_mk]; exact Vi.put_le m, hb⟩

theorem wrap64 (n : Int) : 0 ≤ IntKind.u64.wrap n ∧ IntKind.u64.wrap n < 18446744073709551616 := by
  rw [IntKind.wrap_u64]; omega

set_option maxRecDepth 100000 in
set_option maxHeartbeats 6000000 in
theorem delta_any (x y : Int) (A : Option Addr) (cap : Nat) (L : List Stp) (w : World) (hL : L.length ≤ 30) (hcap : L.length ≤ cap) (hcm : cap ≤ 9223372036854775807) (hs : St w A L) (htext : ∀ i, (h : i < L.length) → (L[i]).text.length ≤ 100 ∧ 0 ≤ (L[i]).n ∧ (L[i]).n ≤ 9223372036854775807) :
    Calls Try.prog 53 #[.int .i64 x, .int .i64 y, .slice A L.length cap] w fun e w' => ∃ t : ByteArray, e = .returned (.string t) ∧ t.size ≤ 5000 ∧ Below w.heap.size w w' := by
  have HT := Lib.hid htext
  clear htext
  obtain ⟨x0, x1⟩ := wrap64 x
  obtain ⟨y0, y1⟩ := wrap64 y
  generalize hx : IntKind.u64.wrap x = ux at x0 x1
  generalize hy : IntKind.u64.wrap y = uy at y0 y1
  go_enter Try.func53, Try.ntmps53
  go_wp2_with fail
  refine (putR_le _ x0 x1 _).mono ?_
  rintro e w1 ⟨t1, rfl, ht1, hb1⟩
  go_wp2_with fail
  refine (putR_le _ y0 y1 _).mono ?_
  rintro e w2 ⟨t2, rfl, ht2, hb2⟩
  have hB := bnext hb1 hb2
  clear hb1 hb2 hx hy x0 x1 y0 y1
  have hlim : (9223372036854775807 < t1.size + t2.size) = False := by simp; omega
  go_wp2
  go_loopw [7, 8] (fun d iv wr => ∃ (k : Nat) (s : ByteArray), d = .string s ∧ iv = .int .i64 k ∧ k ≤ L.length ∧ s.size ≤ 20 + 120 * k ∧ Below w.heap.size w wr) (fun _ iv _ => L.length - (intOf iv).toNat)
  case atStart => exact ⟨0, _, rfl, rfl, Nat.zero_le _, by rw [ByteArray.size_append]; omega, hB⟩
  case round =>
    clear hB hlim ht1 ht2
    obtain ⟨k, s, rfl, rfl, hk, hsz, hbel⟩ := hrel
    by_cases hlt : k < L.length
    · have hs' := hs
      rcases hs' with h0 | ⟨b, off, rfl, hbw, hc⟩
      · rw [h0] at hlt; simp at hlt
      · have HC : Hid (∀ W, Below w.heap.size w W → W.cell? ⟨b, off + k * 3, none⟩ = some (.int .i64 (L[k]).at_) ∧ W.cell? ⟨b, off + k * 3 + 1, none⟩ = some (.int .i64 (L[k]).n) ∧ W.cell? ⟨b, off + k * 3 + 2, none⟩ = some (.string ⟨(L[k]).text.toArray⟩)) := by
          intro W hb
          rw [hb.cell (p := ⟨b, off + k * 3, none⟩) hbw, hb.cell (p := ⟨b, off + k * 3 + 1, none⟩) hbw, hb.cell (p := ⟨b, off + k * 3 + 2, none⟩) hbw]
          exact hc k hlt
        clear hc
        obtain ⟨t0, n0, n1⟩ := HT.out k hlt
        obtain ⟨c0, c1, c2⟩ := HC.out _ hbel
        have hlt' : (k : Int) < (L.length : Int) := by omega
        have hk0 : (0 : Int) ≤ (k : Int) := by omega
        generalize (L[k]).at_ = p at *
        generalize (L[k]).n = n at *
        generalize (L[k]).text = l at *
        have hbelD := hbel.drew
        by_cases hl : l = []
        · subst hl
          obtain ⟨p0, p1⟩ := wrap64 p
          obtain ⟨n2, n3⟩ := wrap64 (IntKind.i64.wrap (IntKind.i64.wrap (2 * n.tmod 100000) + 1))
          generalize hp : IntKind.u64.wrap p = up at p0 p1
          generalize hnn : IntKind.u64.wrap (IntKind.i64.wrap (IntKind.i64.wrap (2 * n.tmod 100000) + 1)) = un at n2 n3
          clear n0 n1
          go_wp2
          have hmark : True := trivial
          go_region_with (go_at_call 33; refine (putR_le _ (by first | exact p0 | exact n2) (by first | exact p1 | exact n3) _).mono ?_; rintro e w1 ⟨t, rfl, ht, hb1⟩; replace hbelD := bnext hbelD hb1; obtain ⟨e0, e1, e2⟩ := HC.out _ hbelD; clear hb1; first | (clear hmark; obtain ⟨t3, ht3⟩ : ∃ a, a = t := ⟨_, rfl⟩; have hl3 : (9223372036854775807 < s.size + t3.size) = False := (by rw [ht3]; simp; omega); rw [ht3] at hl3) | (have hl4 : (9223372036854775807 < s.size + t.size) = False := (by simp; omega); have hl5 : (9223372036854775807 < s.size + t.size + t3.size) = False := (by rw [ht3]; simp; omega); have hl6 : (9223372036854775807 < s.size + t3.size + t.size) = False := (by rw [ht3]; simp; omega); rw [ht3] at hl5 hl6))
          all_goals
            clear ht3
            go_wp2
            go_roundw
            case rel => exact ⟨k + 1, _, rfl, by go_num, by omega, by rw [ByteArray.size_append, ByteArray.size_append]; omega, hbelD⟩
            case measure => simp [intOf]; omega
        · have hne : l.isEmpty = false := by
            cases l with
            | nil => exact absurd rfl hl
            | cons a l => rfl
          clear hl
          go_wp2
          go_region_with (go_at_call 33; refine (putR_le _ (wrap64 _).1 (wrap64 _).2 _).mono ?_; rintro e w1 ⟨t, rfl, ht, hb1⟩; replace hbelD := bnext hbelD hb1; obtain ⟨e0, e1, e2⟩ := HC.out _ hbelD; have hlim1 : (9223372036854775807 < s.size + t.size) = False := (by simp; omega); have hlim2 : (9223372036854775807 < s.size + t.size + l.length) = False := (by simp; omega))
          all_goals
            go_wp2
            go_roundw
            case rel => exact ⟨k + 1, _, rfl, by go_num, by omega, by simp only [ByteArray.size_append, size_mk]; omega, hbelD⟩
            case measure => simp [intOf]; omega
    · obtain rfl : k = L.length := by omega
      go_wp2
      go_ret
      exact ⟨_, rfl, by omega, hbel⟩
end Go.Proofs.Ytominjooffecnaa.WDl
