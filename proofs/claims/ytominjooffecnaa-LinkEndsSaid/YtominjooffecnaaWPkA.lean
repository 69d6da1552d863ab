/- Lines read in memory; what As computes. -/
import Derived.Test.YtominjooffecnaaKit
import Derived.Test.YtominjooffecnaaPPkt
import Derived.Test.YtominjooffecnaaApp
import Derived.Test.YtominjooffecnaaAppS
import Derived.RegionTactic
import Derived.Deep.QuietTactic
import Derived.BigQuiet
namespace Go.Proofs.Ytominjooffecnaa.WPk
open Go.RowKit Kn

/-- a slice of lines reads as L -/
def Pk (w : World) (A : Option Addr) (L : List Pkt.Ln) : Prop :=
  L = [] ∨ ∃ b off, A = some ⟨b, off, none⟩ ∧ b < w.heap.size ∧ ∀ i (h : i < L.length), w.cell? ⟨b, off + i * 2, none⟩ = some (.int .i64 (L[i]).kind) ∧ w.cell? ⟨b, off + i * 2 + 1, none⟩ = some (.string ⟨(L[i]).load.toArray⟩)

theorem Pk.below {w w' : World} {A : Option Addr} {L : List Pkt.Ln} (h : Pk w A L) (hb : Below w.heap.size w w') : Pk w' A L := by
  rcases h with h | ⟨b, off, hA, hlt, hc⟩
  · exact .inl h
  · refine .inr ⟨b, off, hA, Nat.lt_of_lt_of_le hlt hb.size, fun i hi => ?_⟩
    rw [hb.cell (p := ⟨b, off + i * 2, none⟩) hlt, hb.cell (p := ⟨b, off + i * 2 + 1, none⟩) hlt]
    exact hc i hi

def lnsV (L : List Pkt.Ln) : List Value := L.flatMap fun p => [.int .i64 p.kind, .string ⟨p.load.toArray⟩]

theorem lnsV_length (L : List Pkt.Ln) : (lnsV L).length = L.length * 2 := by
  induction L with
  | nil => rfl
  | cons p L ih => rw [lnsV, List.flatMap_cons, List.length_append, ← lnsV, ih]; simp; omega
theorem lnsV_append (a b : List Pkt.Ln) : lnsV (a ++ b) = lnsV a ++ lnsV b := by simp [lnsV]
theorem lnsV_succ (L : List Pkt.Ln) (k : Nat) (h : k < L.length) : lnsV (L.take (k + 1)) = lnsV (L.take k) ++ [.int .i64 L[k].kind, .string ⟨L[k].load.toArray⟩] := by
  rw [List.take_succ_eq_append_getElem h, lnsV_append]; rfl
theorem lnsV_get0 : ∀ (L : List Pkt.Ln) (i : Nat) (h : i < L.length), (lnsV L)[i * 2]? = some (.int .i64 (L[i]).kind) := by
  intro L
  induction L with
  | nil => intro i h; simp at h
  | cons p L ih =>
    intro i h
    cases i with
    | zero => rfl
    | succ i =>
      rw [show (i + 1) * 2 = i * 2 + 2 from by omega]
      have := ih i (by simp at h; omega)
      simpa [lnsV] using this
theorem lnsV_get1 : ∀ (L : List Pkt.Ln) (i : Nat) (h : i < L.length), (lnsV L)[i * 2 + 1]? = some (.string ⟨(L[i]).load.toArray⟩) := by
  intro L
  induction L with
  | nil => intro i h; simp at h
  | cons p L ih =>
    intro i h
    cases i with
    | zero => rfl
    | succ i =>
      rw [show (i + 1) * 2 + 1 = i * 2 + 1 + 2 from by omega]
      have := ih i (by simp at h; omega)
      simpa [lnsV] using this

theorem info67 : (Try.prog.info? 67).map (fun i => (i.zero, i.size, i.bytes)) = some (some (.agg #[.int .i64 0, .string ⟨#[]⟩]), 2, 24) := by kernel_rfl

set_option maxRecDepth 100000 in
set_option maxHeartbeats 1000000 in
theorem as_any (A : Option Addr) (cap : Nat) (L : List Pkt.Ln) (w : World) (hL : L.length ≤ 1000) (hcap : L.length ≤ cap) (hcm : cap ≤ 9223372036854775807) (hp : Pk w A L) :
    Calls Try.prog 22 #[.slice A L.length cap] w fun e w' => ∃ v, e = .returned v ∧ w'.ownsRow w.heap.size 67 2 v L.length (lnsV L) ∧ Below w.heap.size w w' := by
  obtain ⟨i67, hi67, hz67, hs67, hb67⟩ := info_parts info67
  go_enter Try.func22, Try.ntmps22
  go_wp2
  go_loopw [3, 4] (fun v i wr => ∃ k : Nat, k ≤ L.length ∧ i = .int .i64 k ∧ wr.ownsRow w.heap.size 67 2 v k (lnsV (L.take k)) ∧ Below w.heap.size w wr) (fun _ i _ => L.length - (intOf i).toNat)
  case atStart => exact ⟨0, Nat.zero_le _, rfl, World.ownsRow_nil _ _ _ _, Below.refl _ _⟩
  case round =>
    obtain ⟨k, hk, rfl, hown, hbel⟩ := hrel
    by_cases hlt : k < L.length
    · have hp' := hp.below hbel
      rcases hp' with h0 | ⟨b, off, rfl, hbw, hc⟩
      · rw [h0] at hlt; simp at hlt
      · obtain ⟨hc1, hc2⟩ := hc k hlt
        have hlt' : (k : Int) < (L.length : Int) := by omega
        have hk0 : (0 : Int) ≤ (k : Int) := by omega
        clear hc
        go_wp2
        go_region_law (refine step_append_new _ rfl (.tmp 11) (.tmp 23) 27 rfl w.heap.size 67 i67 _ 2 24 Try.underlying27 hi67 hz67 hs67 hb67 rfl (by decide) _ _ _ hown (by simp [Act.eval]) 1 (by simp [Act.eval]) rfl rfl (by unfold maxLen; omega) (by omega) hbel.size ?_; intro v' w1 hown' hgrow)
        all_goals
          have hbel' := (hbel.grown hgrow hbel.size (ownBlock_ge hown))
          go_wp2
          go_roundw
          case rel =>
            refine ⟨k + 1, by omega, by go_num, ?_, hbel'⟩
            rw [lnsV_succ L k hlt]
            exact hown'
          case measure => simp [intOf]; omega
    · obtain rfl : k = L.length := by omega
      rw [List.take_length] at hown
      go_wp2
      go_ret
      exact ⟨_, rfl, hown, hbel⟩

/-- from what is owned to what is read -/
theorem pk_own {w : World} {base : Nat} {e : TypeId} {A : Option Addr} {n c : Nat} {L : List Pkt.Ln} (h : w.ownsRow base e 2 (.slice A n c) n (lnsV L)) : n = L.length ∧ Pk w A L := by
  have hn : n = L.length := by
    have := h.1
    rw [lnsV_length] at this
    omega
  refine ⟨hn, ?_⟩
  subst hn
  by_cases h0 : L = []
  · exact .inl h0
  · obtain ⟨g, cap, hv, _, _, _⟩ := own_form h (List.length_pos_iff.2 h0)
    simp only [Value.slice.injEq] at hv
    obtain ⟨rfl, _, rfl⟩ := hv
    refine .inr ⟨g, 0, rfl, own_lt h g rfl, fun i hi => ?_⟩
    rw [Nat.zero_add, h.cellAt (i * 2) (by omega), h.cellAt (i * 2 + 1) (by omega), lnsV_get0 L i hi, lnsV_get1 L i hi]
    exact ⟨rfl, rfl⟩
end Go.Proofs.Ytominjooffecnaa.WPk
