/- What layer 7's reference computes at All. -/
import Derived.Test.YtominjooffecnaaWPkQ
import Derived.Test.YtominjooffecnaaWPkK
namespace Go.Proofs.Ytominjooffecnaa.WPk
open Go.RowKit Kn

theorem drop_of_cat {a b l : List UInt8} (h : l = a ++ b) : b = l.drop (l.length - b.length) := by
  subst h
  rw [List.length_append, Nat.add_sub_cancel, List.drop_left]

theorem getPR_cases (s : List UInt8) : (Pkt.get s = none ∧ getPR s = (⟨0, []⟩, 0)) ∨ ∃ p q, Pkt.get s = some (p, s.drop q) ∧ 1 ≤ q ∧ q ≤ s.length ∧ getPR s = (p, q) := by
  unfold getPR
  cases h : Pkt.get s with
  | none => exact .inl ⟨rfl, rfl⟩
  | some x =>
    obtain ⟨p, r⟩ := x
    have h1 := Pkt.get_lt h
    have h2 := drop_of_cat ((Pkt.get_iff s p r).1 h).2
    refine .inr ⟨p, s.length - r.length, ?_, by omega, by omega, rfl⟩
    rw [← h2]

theorem ext_data (s : ByteArray) (a : Nat) : (s.extract a s.size).data.toList = s.data.toList.drop a := by
  rw [Lib.extract_data]
  exact List.take_of_length_le (by simp)

/-- what the reference's All gives, told by cases -/
def AllToldR (s : List UInt8) (l : List Pkt.Ln) (b : Bool) : Prop := (b = false ∧ l = [] ∧ Pkt.all s = none) ∨ (b = true ∧ Pkt.all s = some l)


set_option maxRecDepth 100000 in
set_option maxHeartbeats 2000000 in
theorem allR_any (s : ByteArray) (w : World) (hs : s.size ≤ 100000) :
    Calls Try.prog 48 #[.string s] w fun e w' => ∃ A c l b, e = .returned (.tuple #[.slice A l.length c, .bool b]) ∧ l.length ≤ c ∧ c ≤ 9223372036854775807 ∧ Pk w' A l ∧ AllToldR s.data.toList l b ∧ Below w.heap.size w w' := by
  obtain ⟨i67, hi, hz, hs2, hb⟩ := info_parts info67
  go_enter Try.func48, Try.ntmps48
  go_wp2
  go_loopw [0, 4] (fun a v wr => ∃ (R : ByteArray) (out : List Pkt.Ln) (k : Nat), a = .string R ∧ R.size ≤ k ∧ out.length + R.size ≤ 100000 ∧ wr.ownsRow w.heap.size 67 2 v out.length (lnsV out) ∧ Below w.heap.size w wr ∧
      Hid (Pkt.all s.data.toList = more out (Pkt.allF k R.data.toList))) (fun a _ _ => lenOf a)
  case atStart =>
    refine ⟨s, [], s.size, rfl, Nat.le_refl _, by simpa using hs, World.ownsRow_nil _ _ _ _, Below.refl _ _, ?_⟩
    show Pkt.allF s.data.toList.length s.data.toList = _
    rw [show s.data.toList.length = s.size from by simp]
    cases Pkt.allF s.size s.data.toList <;> rfl
  case round =>
    obtain ⟨R, out, k, rfl, hRk, hbd, hown, hbel, HE⟩ := hrel
    by_cases hR : R = ⟨#[]⟩
    · subst hR
      have HE2 := Lib.hid (show Pkt.all s.data.toList = some out by rw [HE.out, show (⟨#[]⟩ : ByteArray).data.toList = [] from rfl, allF_nil]; simp [more])
      obtain ⟨A, c, rfl, hc1, hc2⟩ := own_slice hown
      unfold maxLen at hc2
      have hp := (pk_own hown).2
      clear HE hown
      go_wp2
      go_ret2
      exact ⟨A, c, out, true, rfl, hc1, hc2, hp, .inr ⟨rfl, HE2.out⟩, hbel⟩
    · obtain ⟨hRn, hRne⟩ := ne_empty hR
      have hRl : R.data.toList.length = R.size := by simp
      have HRn := Lib.hid hRn
      clear hR hRn
      go_wp2_with fail
      refine (getR_any R _ (by omega)).mono ?_
      rintro e w1 ⟨rfl, hb1⟩
      have hbel1 := bnext hbel hb1
      have hown1 := own_below hown hb1
      clear hown hbel hb1
      rcases getPR_cases R.data.toList with ⟨g1, g2⟩ | ⟨p, q, g1, hq1, hq2, g2⟩
      · have HE2 := Lib.hid (show Pkt.all s.data.toList = none by rw [HE.out, allF_none (by omega) HRn.out g1]; rfl)
        rw [g2]
        clear HE g1 g2 hRl
        go_wp2
        go_ret2
        exact ⟨none, 0, [], false, rfl, Nat.le_refl _, by omega, .inl rfl, .inl ⟨rfl, rfl, HE2.out⟩, balloc hbel1 _⟩
      · rw [g2]
        clear g2
        obtain ⟨j, hj, hjr⟩ := allF_step (out := out) (k := k) (by omega) g1
        have HE3 := Lib.hid (HE.out.trans hjr)
        rw [hRl] at hq2
        rw [List.length_drop, hRl] at hj
        have hq0 : ((q : Int) == 0) = false := by simp; omega
        have hq3 : (q : Int) ≤ R.size := by omega
        have HJ := Lib.hid hj
        clear HE hjr hj g1 hRl
        obtain ⟨pk, pl⟩ := p
        go_wp2_with (at_builtin; refine wpList_append_newH _ _ rfl _ _ 27 rfl w.heap.size 67 i67 _ 2 24 Try.underlying27 hi hz hs2 hb rfl (by decide) _ _ _ (hown1.alloc _) rfl 1 (w1.heap.size + 1) (by simp) rfl rfl rfl (by unfold maxLen; omega) (by omega) (by have := hbel1.size; simp; omega) ?_)
        intro v' w2 hown2 hgrow _
        have hbel2 : Below w.heap.size w w2 := (balloc hbel1 (.cells #[.int .i64 pk, .string ⟨pl.toArray⟩] 67)).grown hgrow (by have := hbel1.size; simp; omega) (ownBlock_ge hown1)
        clear hown1 hgrow hbel1
        go_wp2
        go_roundw
        case rel =>
          refine ⟨_, out ++ [⟨pk, pl⟩], j, rfl, by rw [ByteArray.size_extract, Nat.min_self]; exact HJ.out, by rw [ByteArray.size_extract, List.length_append]; simp; omega, ?_, hbel2, ?_⟩
          · rw [List.length_append, lnsV_append]
            exact hown2
          · rw [ext_data]
            exact HE3
        case measure => simp [lenOf]; omega
end Go.Proofs.Ytominjooffecnaa.WPk
