/- What a packet's bytes are; what an end sends (layer 24). -/
import Derived.Test.YtominjooffecnaaLkA
import Derived.Test.YtominjooffecnaaPLk
import Derived.Test.YtominjooffecnaaWCrcS
import Derived.Test.YtominjooffecnaaWViT
import Derived.Deep.RegionHeldLaw
namespace Go.Proofs.Ytominjooffecnaa.WLk
open Go.RowKit Kn

/-- a packet's bytes ahead of the sum -/
def raw (c : Nat) (p : Lk.Pk) : List UInt8 := Vi.put c ++ (Vi.put p.n ++ ((if p.part.last then 1 else 0) :: (Vi.text p.part.text ++ Vi.put p.took)))
def bytesN (c : Nat) (p : Lk.Pk) : List UInt8 := Crc.seal_ (raw c p)

theorem box5_keep {w w1 w2 : World} {c0 c1 c2 c3 c4 : Value} (hb : Below w1.heap.size w1 w2) (h : Below w.heap.size w w1 ∧ w.heap.size < w1.heap.size ∧ w1.cell? ⟨w.heap.size, 0, none⟩ = some c0 ∧ w1.cell? ⟨w.heap.size, 1, none⟩ = some c1 ∧ w1.cell? ⟨w.heap.size, 2, none⟩ = some c2 ∧ w1.cell? ⟨w.heap.size, 3, none⟩ = some c3 ∧ w1.cell? ⟨w.heap.size, 4, none⟩ = some c4) :
    Below w.heap.size w w2 ∧ w.heap.size < w2.heap.size ∧ w2.cell? ⟨w.heap.size, 0, none⟩ = some c0 ∧ w2.cell? ⟨w.heap.size, 1, none⟩ = some c1 ∧ w2.cell? ⟨w.heap.size, 2, none⟩ = some c2 ∧ w2.cell? ⟨w.heap.size, 3, none⟩ = some c3 ∧ w2.cell? ⟨w.heap.size, 4, none⟩ = some c4 := by
  obtain ⟨h0, h1, h2, h3, h4, h5, h6⟩ := h
  have hs := hb.size
  refine ⟨bnext h0 hb, by omega, ?_, ?_, ?_, ?_, ?_⟩
  all_goals
    rw [hb.cell (by exact h1)]
    assumption

set_option maxRecDepth 100000 in
set_option maxHeartbeats 1500000 in
theorem bytes_any (c : Nat) (hc : c < 18446744073709551616) (p : Lk.Pk) (hn : p.n < 18446744073709551616) (hk : p.took < 18446744073709551616) (ht : p.part.text.length ≤ 200) (w : World) :
    Calls Try.prog 76 #[.agg #[.int .u64 c, .int .u64 p.n, .string ⟨p.part.text.toArray⟩, .bool p.part.last, .int .u64 p.took]] w fun e w' => e = .returned (.string ⟨(bytesN c p).toArray⟩) ∧ Below w.heap.size w w' := by
  obtain ⟨n, ⟨t, l⟩, k⟩ := p
  simp only at hn hk ht ⊢
  have HS : Hid (∀ c0 c1 c2 c3 c4, Below w.heap.size w (w.alloc (.cells #[c0, c1, c2, c3, c4] 126)).drew ∧ w.heap.size < (w.alloc (.cells #[c0, c1, c2, c3, c4] 126)).drew.heap.size ∧ (w.alloc (.cells #[c0, c1, c2, c3, c4] 126)).drew.cell? ⟨w.heap.size, 0, none⟩ = some c0 ∧ (w.alloc (.cells #[c0, c1, c2, c3, c4] 126)).drew.cell? ⟨w.heap.size, 1, none⟩ = some c1 ∧ (w.alloc (.cells #[c0, c1, c2, c3, c4] 126)).drew.cell? ⟨w.heap.size, 2, none⟩ = some c2 ∧ (w.alloc (.cells #[c0, c1, c2, c3, c4] 126)).drew.cell? ⟨w.heap.size, 3, none⟩ = some c3 ∧ (w.alloc (.cells #[c0, c1, c2, c3, c4] 126)).drew.cell? ⟨w.heap.size, 4, none⟩ = some c4) := by
    intro c0 c1 c2 c3 c4
    refine ⟨(balloc (Below.refl _ _) _).drew, by simp, ?_, ?_, ?_, ?_, ?_⟩ <;> simp
  have hp1 := Vi.put_le c
  have hp2 := Vi.put_le n
  have hp3 := Vi.put_le k
  have hp4 : (Vi.text t).length ≤ 210 := by
    have := Vi.put_le t.length
    rw [Vi.text]; simp; omega
  have hl1 : (9223372036854775807 < (Vi.put c).length + (Vi.put n).length) = False := by simp; omega
  have hl2 : (9223372036854775807 < (Vi.put c).length + (Vi.put n).length + 1) = False := by simp; omega
  have hl3 : (9223372036854775807 < (Vi.put c).length + (Vi.put n).length + 1 + (Vi.text t).length) = False := by simp; omega
  have hl4 : (9223372036854775807 < (Vi.put c).length + (Vi.put n).length + 1 + (Vi.text t).length + (Vi.put k).length) = False := by simp; omega
  cases l
  · go_enter Try.func76, Try.ntmps76
    go_wp2
    go_region_held (fun w' => Below w.heap.size w w' ∧ w.heap.size < w'.heap.size ∧ w'.cell? ⟨w.heap.size, 0, none⟩ = some (.int .u64 c) ∧ w'.cell? ⟨w.heap.size, 1, none⟩ = some (.int .u64 n) ∧ w'.cell? ⟨w.heap.size, 2, none⟩ = some (.string ⟨t.toArray⟩) ∧ w'.cell? ⟨w.heap.size, 3, none⟩ = some (.bool false) ∧ w'.cell? ⟨w.heap.size, 4, none⟩ = some (.int .u64 k))
      (first | exact HS.out _ _ _ _ _ | exact box5_keep ‹_› ‹_›)
      (first | (go_at_call 32; refine (WVi.put_any _ (by assumption) _).mono ?_; rintro e w1 ⟨rfl, hb1⟩) | (go_at_call 34; refine (WVi.text_any _ (by rw [size_mk]; omega) _).mono ?_; rintro e w1 ⟨rfl, hb1⟩) | (go_at_call 30; refine (WCrc.seal_any _ _ (by go_simp; omega)).mono ?_; rintro e w1 ⟨rfl, hb1⟩))
    all_goals
      go_wp2
      go_ret
      exact ⟨rfl, (‹Below w.heap.size w w1 ∧ _›).1⟩
  · go_enter Try.func76, Try.ntmps76
    go_wp2
    go_region_held (fun w' => Below w.heap.size w w' ∧ w.heap.size < w'.heap.size ∧ w'.cell? ⟨w.heap.size, 0, none⟩ = some (.int .u64 c) ∧ w'.cell? ⟨w.heap.size, 1, none⟩ = some (.int .u64 n) ∧ w'.cell? ⟨w.heap.size, 2, none⟩ = some (.string ⟨t.toArray⟩) ∧ w'.cell? ⟨w.heap.size, 3, none⟩ = some (.bool true) ∧ w'.cell? ⟨w.heap.size, 4, none⟩ = some (.int .u64 k))
      (first | exact HS.out _ _ _ _ _ | exact box5_keep ‹_› ‹_›)
      (first | (go_at_call 32; refine (WVi.put_any _ (by assumption) _).mono ?_; rintro e w1 ⟨rfl, hb1⟩) | (go_at_call 34; refine (WVi.text_any _ (by rw [size_mk]; omega) _).mono ?_; rintro e w1 ⟨rfl, hb1⟩) | (go_at_call 30; refine (WCrc.seal_any _ _ (by go_simp; omega)).mono ?_; rintro e w1 ⟨rfl, hb1⟩))
    all_goals
      go_wp2
      go_ret
      exact ⟨rfl, (‹Below w.heap.size w w1 ∧ _›).1⟩

/-- parts as values -/
def ptsV (L : List Lk.Part) : List Value := L.flatMap fun p => [.string ⟨p.text.toArray⟩, .bool p.last]
theorem ptsV_length (L : List Lk.Part) : (ptsV L).length = L.length * 2 := by
  induction L with
  | nil => rfl
  | cons p L ih => rw [ptsV, List.flatMap_cons, List.length_append, ← ptsV, ih]; simp; omega
theorem ptsV_append (a b : List Lk.Part) : ptsV (a ++ b) = ptsV a ++ ptsV b := by simp [ptsV]

/-- what an end with these parts sends -/
def tickL (L : List Lk.Part) (num took : Nat) : Lk.Pk := match L with
  | [] => ⟨0, ⟨[], false⟩, took⟩
  | p :: _ => ⟨num, p, took⟩

set_option maxRecDepth 100000 in
set_option maxHeartbeats 1500000 in
theorem tick_any (c : Nat) (hc : c < 18446744073709551616) (eb : Nat) (pv : Value) (L : List Lk.Part) (num took : Nat) (x : ByteArray) (ρ : Nat → Nat) (τ : Nat) (w : World)
    (hrow : w.heap[eb]? = some (.cells #[.int .u64 c, pv, .int .u64 num, .int .u64 took, .string x] 119 (0, 0))) (hsl : Sl w ρ τ 2 pv L.length (ptsV L)) (hL : ∀ p ∈ L, p.text.length ≤ 200) (hn : num < 18446744073709551616) (hk : took < 18446744073709551616) :
    Calls Try.prog 61 #[.pointer (some ⟨eb, 0, none⟩)] w fun e w' => e = .returned (.string ⟨(bytesN c (tickL L num took)).toArray⟩) ∧ Below w.heap.size w w' := by
  have hlt := lt_of_block hrow
  have c0 : w.cell? ⟨eb, 0, none⟩ = some (.int .u64 c) := by rw [cell_of_row _ _ _ _ _ _ hrow]; rfl
  have c1 : w.cell? ⟨eb, 1, none⟩ = some pv := by rw [cell_of_row _ _ _ _ _ _ hrow]; rfl
  have c2 : w.cell? ⟨eb, 2, none⟩ = some (.int .u64 num) := by rw [cell_of_row _ _ _ _ _ _ hrow]; rfl
  have c3 : w.cell? ⟨eb, 3, none⟩ = some (.int .u64 took) := by rw [cell_of_row _ _ _ _ _ _ hrow]; rfl
  clear hrow
  cases L with
  | nil =>
    obtain ⟨A, cap, rfl, _, _⟩ := hsl.form
    clear hsl
    go_enter Try.func61, Try.ntmps61
    go_wp2
    go_region
    all_goals
      go_wp2_with fail
      refine (bytes_any c hc ⟨0, ⟨[], false⟩, took⟩ (Nat.zero_lt_succ _) hk (Nat.zero_le _) _).mono ?_
      rintro e w1 ⟨rfl, hb1⟩
      have hB := bnext (balloc (Below.refl _ w) _).drew hb1
      go_wp2
      go_ret
      exact ⟨rfl, hB⟩
  | cons p L =>
    have hpt := hL p (by simp)
    rcases hsl.2 with ⟨_, h0⟩ | ⟨g, off, cap, rfl, _, hnc, hcm, hg, hcells, _⟩
    · cases h0
    have e0 : w.cell? ⟨g, off, none⟩ = some (.string ⟨p.text.toArray⟩) := hcells 0 _ rfl
    have e1 : w.cell? ⟨g, off + 1, none⟩ = some (.bool p.last) := hcells 1 _ rfl
    have hlen : (0 : Int) < ((p :: L).length : Int) := by simp
    unfold maxLen at hcm
    clear hsl hcells
    generalize (p :: L).length = N at *
    go_enter Try.func61, Try.ntmps61
    go_wp2
    go_region
    all_goals
      go_wp2
      go_region
      all_goals
        go_wp2_with fail
        refine (bytes_any c hc ⟨num, p, took⟩ hn hk hpt _).mono ?_
        rintro e w1 ⟨rfl, hb1⟩
        have hB : Below w.heap.size w w1 := by
          refine bnext ?_ hb1
          repeat first
            | exact balloc (Below.refl _ _) _
            | refine Below.drew ?_
            | refine Below.setCell ?_ (Nat.le_refl _) _
        clear hb1
        go_wp2
        go_ret
        exact ⟨rfl, hB⟩
end Go.Proofs.Ytominjooffecnaa.WLk
