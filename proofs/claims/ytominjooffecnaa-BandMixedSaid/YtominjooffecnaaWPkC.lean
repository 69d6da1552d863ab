/- What layer 7's All computes. -/
import Derived.Test.YtominjooffecnaaWPkG
import Derived.Test.YtominjooffecnaaWPkA
import Derived.Test.YtominjooffecnaaAppH
namespace Go.Proofs.Ytominjooffecnaa.WPk
open Go.RowKit Kn

theorem info34 : (Try.prog.info? 34).map (fun i => (i.zero, i.size, i.bytes)) = some (some (.agg #[.int .i64 0, .string ⟨#[]⟩]), 2, 24) := by kernel_rfl

def lenOf : Value → Nat | .string s => s.size | _ => 0

/-- what All gives: the lines, the error -/
def allN (s : List UInt8) : List Pkt.Ln × Nat := match Pkt.all s with | none => ([], 2) | some l => (l, 0)

def more (out : List Pkt.Ln) (o : Option (List Pkt.Ln)) : Option (List Pkt.Ln) := match o with | none => none | some l => some (out ++ l)

theorem allF_none {k : Nat} {r : List UInt8} (hk : r.length ≤ k) (hr : r ≠ []) (h : Pkt.get r = none) : Pkt.allF k r = none := by
  cases k with
  | zero => exact absurd (List.eq_nil_of_length_eq_zero (by omega)) hr
  | succ k => rw [Pkt.allF, if_neg hr, h]
theorem allF_nil (k : Nat) : Pkt.allF k [] = some [] := by cases k <;> simp [Pkt.allF]
theorem allF_step {k : Nat} {r q : List UInt8} {p : Pkt.Ln} {out : List Pkt.Ln} (hk : r.length ≤ k) (h : Pkt.get r = some (p, q)) : ∃ j, q.length ≤ j ∧ more out (Pkt.allF k r) = more (out ++ [p]) (Pkt.allF j q) := by
  have hl := Pkt.get_lt h
  have hr : r ≠ [] := by intro e; subst e; simp at hl
  cases k with
  | zero => exact absurd (List.eq_nil_of_length_eq_zero (by omega)) hr
  | succ k =>
    refine ⟨k, by omega, ?_⟩
    rw [Pkt.allF, if_neg hr, h]
    simp only
    cases Pkt.allF k q with
    | none => rfl
    | some l => simp [more]

theorem getPN_cases (s : List UInt8) : (Pkt.get s = none ∧ getPN s = (⟨0, []⟩, [], 2)) ∨ ∃ p r, Pkt.get s = some (p, r) ∧ r.length < s.length ∧ getPN s = (p, r, 0) := by
  unfold getPN
  cases h : Pkt.get s with
  | none => exact .inl ⟨rfl, rfl⟩
  | some q => exact .inr ⟨q.1, q.2, rfl, Pkt.get_lt h, rfl⟩

theorem ne_empty {R : ByteArray} (h : ¬ R = ⟨#[]⟩) : R.data.toList ≠ [] ∧ (!R.toList.isEmpty) = true := by
  have : R.data.toList ≠ [] := fun e => h (by rw [← Lib.mk_data R, e])
  refine ⟨this, ?_⟩
  rw [Lib.toList_data]
  cases hq : R.data.toList with
  | nil => exact absurd hq this
  | cons => rfl

set_option maxRecDepth 100000 in
set_option maxHeartbeats 2000000 in
theorem all_any (s : ByteArray) (w : World) (hs : s.size ≤ 100000) :
    Calls Try.prog 47 #[.string s] w fun e w' => ∃ v, e = .returned (.tuple #[v, .int .i64 (allN s.data.toList).2]) ∧ w'.ownsRow w.heap.size 34 2 v (allN s.data.toList).1.length (lnsV (allN s.data.toList).1) ∧ Below w.heap.size w w' := by
  obtain ⟨i34, hi, hz, hs2, hb⟩ := info_parts info34
  go_enter Try.func47, Try.ntmps47
  go_wp2
  go_loopw [0, 4] (fun a v wr => ∃ (R : ByteArray) (out : List Pkt.Ln) (k : Nat), a = .string R ∧ R.size ≤ k ∧ out.length + R.size ≤ 100000 ∧ wr.ownsRow w.heap.size 34 2 v out.length (lnsV out) ∧ Below w.heap.size w wr ∧
      Hid (Pkt.all s.data.toList = more out (Pkt.allF k R.data.toList))) (fun a _ _ => lenOf a)
  case atStart =>
    refine ⟨s, [], s.size, rfl, Nat.le_refl _, by simpa using hs, World.ownsRow_nil _ _ _ _, Below.refl _ _, ?_⟩
    show Pkt.allF s.data.toList.length s.data.toList = _
    rw [show s.data.toList.length = s.size from by simp]
    cases Pkt.allF s.size s.data.toList <;> rfl
  case round =>
    obtain ⟨R, out, k, rfl, hRk, hbd, hown, hbel, HE⟩ := hrel
    by_cases hR : R = ⟨#[]⟩
    · subst hR
      have HE2 := Lib.hid (show allN s.data.toList = (out, 0) by rw [allN, HE.out, show (⟨#[]⟩ : ByteArray).data.toList = [] from rfl, allF_nil]; simp [more])
      obtain ⟨A, c, rfl, _, _⟩ := own_slice hown
      clear HE
      go_wp2
      go_ret2
      refine ⟨_, by rw [HE2.out]; rfl, ?_, hbel⟩
      rw [HE2.out]
      exact hown
    · obtain ⟨hRn, hRne⟩ := ne_empty hR
      have hRl : R.data.toList.length = R.size := by simp
      have HRn := Lib.hid hRn
      clear hR hRn
      go_wp2_with fail
      refine (get_any R _ (by omega)).mono ?_
      rintro e w1 ⟨rfl, hb1⟩
      have hbel1 := bnext hbel hb1
      have hown1 := own_below hown hb1
      clear hown hbel hb1
      rcases getPN_cases R.data.toList with ⟨g1, g2⟩ | ⟨p, q, g1, hq, g2⟩
      · have HE2 := Lib.hid (show allN s.data.toList = ([], 2) by rw [allN, HE.out, allF_none (by omega) HRn.out g1]; rfl)
        rw [g2]
        clear HE g1 g2 hRl
        go_wp2
        go_ret2
        refine ⟨_, by rw [HE2.out]; rfl, ?_, balloc hbel1 _⟩
        rw [HE2.out]
        exact World.ownsRow_nil _ _ _ _
      · rw [g2]
        clear g2
        obtain ⟨j, hj, hjr⟩ := allF_step (out := out) (k := k) (by omega) g1
        have HE3 := Lib.hid (HE.out.trans hjr)
        rw [hRl] at hq
        have HJ := Lib.hid hj
        have HQ : Hid (out.length + 1 + q.length ≤ 100000) := by show _ ≤ _; omega
        clear HE hjr hj g1 hRl
        obtain ⟨pk, pl⟩ := p
        go_wp2_with (at_builtin; refine wpList_append_newH _ _ rfl _ _ 23 rfl w.heap.size 34 i34 _ 2 24 Try.underlying23 hi hz hs2 hb rfl (by decide) _ _ _ (hown1.alloc _) rfl 1 (w1.heap.size + 1) (by simp) rfl rfl rfl (by unfold maxLen; omega) (by omega) (by have := hbel1.size; simp; omega) ?_)
        intro v' w2 hown2 hgrow _
        have hbel2 : Below w.heap.size w w2 := (balloc hbel1 (.cells #[.int .i64 pk, .string ⟨pl.toArray⟩] 34)).grown hgrow (by have := hbel1.size; simp; omega) (ownBlock_ge hown1)
        clear hown1 hgrow hbel1
        go_wp2
        go_roundw
        case rel =>
          refine ⟨⟨q.toArray⟩, out ++ [⟨pk, pl⟩], j, rfl, by rw [size_mk]; exact HJ.out, by rw [size_mk, List.length_append]; exact HQ.out, ?_, hbel2, HE3⟩
          rw [List.length_append, lnsV_append]
          exact hown2
        case measure => simp [lenOf, size_mk]; omega
end Go.Proofs.Ytominjooffecnaa.WPk
