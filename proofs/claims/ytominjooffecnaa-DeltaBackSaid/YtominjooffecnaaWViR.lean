/- What layer 1's reference computes at Get. -/
import Derived.Test.YtominjooffecnaaWViT
namespace Go.Proofs.Ytominjooffecnaa.WVi
open Go.RowKit Kn

/-- what the reference's Get gives: the number, and how many bytes it has -/
def getR (s : List UInt8) : Nat × Nat := match Vi.get s with
  | none => (0, 0)
  | some (n, r) => (n, s.length - r.length)

theorem val_drop_le : ∀ (l : List UInt8) (j : Nat), Vi.val (l.drop j) ≤ Vi.val l := by
  intro l
  induction l with
  | nil => intro j; simp
  | cons x l ih =>
    intro j
    cases j with
    | zero => simp
    | succ j =>
      have := ih j
      simp only [List.drop_succ_cons, Vi.val]
      omega

theorem take_get (s : ByteArray) (k : Nat) (h : k < s.size) (hall : ∀ x ∈ s.data.toList.take k, 128 ≤ x.toNat) (hc : s[k].toNat < 128) (hk : k ≤ 9) :
    Vi.get s.data.toList = if k = 9 ∧ 1 < s[k].toNat then none else if s[k].toNat = 0 ∧ 0 < k then none else some (Vi.val (s.data.toList.take (k + 1)), s.data.toList.drop (k + 1)) := by
  have hl : (s.data.toList.take k).length = k := by simp; omega
  have e : s.data.toList = s.data.toList.take k ++ s[k] :: s.data.toList.drop (k + 1) := by
    rw [← drop_at s k h, List.take_append_drop]
  have h2 := Vi.getF_end (s.data.toList.take k) 9 0 0 s[k] (s.data.toList.drop (k + 1)) hall hc (by omega)
  rw [← e, hl, ← take_snoc s k h] at h2
  unfold Vi.get
  rw [h2]
  simp

theorem none_get (s : ByteArray) (k : Nat) (hall : ∀ x ∈ s.data.toList.take k, 128 ≤ x.toNat) (hks : k ≤ s.size) (h : k = 10 ∨ s.size ≤ k) (hk : k ≤ 10) : Vi.get s.data.toList = none := by
  have hl : (s.data.toList.take k).length = k := by simp; omega
  have h2 := Vi.getF_none (s.data.toList.take k) 10 0 0 (s.data.toList.drop k) hall (by
    rw [hl]
    rcases h with h | h
    · exact .inl h
    · exact .inr (List.drop_of_length_le (by simpa using h))) (by omega)
  rw [List.take_append_drop] at h2
  exact h2

theorem all_snoc (s : ByteArray) (k : Nat) (h : k < s.size) (hall : ∀ x ∈ s.data.toList.take k, 128 ≤ x.toNat) (hc : 128 ≤ s[k].toNat) : ∀ x ∈ s.data.toList.take (k + 1), 128 ≤ x.toNat := by
  rw [take_snoc s k h]
  intro x hx
  rcases List.mem_append.1 hx with hx | hx
  · exact hall x hx
  · simp at hx; subst hx; exact hc

theorem val_back (s : ByteArray) (k j : Nat) (hk : k < s.size) (hj : j ≤ k) : Vi.val ((s.data.toList.take (k + 1)).drop j) = s[j].toNat % 128 + 128 * Vi.val ((s.data.toList.take (k + 1)).drop (j + 1)) := by
  have hl : j < (s.data.toList.take (k + 1)).length := by simp; omega
  rw [List.drop_eq_getElem_cons hl, Vi.val]
  congr 3
  simp
  rfl

set_option maxRecDepth 100000 in
set_option maxHeartbeats 1000000 in
theorem getR_any (s : ByteArray) (hs : s.size ≤ 9223372036854775807) (w : World) :
    Calls Try.prog 37 #[.string s] w fun e w' => e = .returned (.tuple #[.int .u64 (getR s.data.toList).1, .int .i64 (getR s.data.toList).2]) ∧ w = w' := by
  go_enter Try.func37, Try.ntmps37
  go_wp2
  go_loop [4] (fun i => ∃ (k : Nat), k ≤ 10 ∧ k ≤ s.size ∧ i = .int .i64 k ∧ Hid (∀ x ∈ s.data.toList.take k, 128 ≤ x.toNat)) (fun i => 10 - (intOf i).toNat)
  case atStart => exact ⟨0, by omega, by omega, rfl, by intro x hx; simp at hx⟩
  case round =>
    obtain ⟨k, hk, hks, rfl, HA⟩ := hrel
    by_cases hend : k = 10 ∨ s.size ≤ k
    · have e : getR s.data.toList = (0, 0) := by rw [getR, none_get s k HA.out hks hend hk]
      have HE := Lib.hid e
      clear e
      rcases Nat.lt_or_ge k s.size with h1 | h1
      · have h10 : 10 ≤ k := by omega
        clear hend
        go_wp2
        go_ret2
        exact ⟨by rw [HE.out]; rfl, rfl⟩
      · clear hend
        go_wp2
        go_ret2
        exact ⟨by rw [HE.out]; rfl, rfl⟩
    · have h10 : k < 10 := by omega
      have h1 : k < s.size := by omega
      clear hend
      have hu := s[k].toNat_lt
      by_cases hc : 128 ≤ s[k].toNat
      · go_wp2
        go_round
        case rel => exact ⟨k + 1, by omega, by omega, by go_num, all_snoc s k h1 HA.out hc⟩
        case measure => simp [intOf]; omega
      · have HG := Lib.hid (take_get s k h1 HA.out (by omega) (by omega))
        by_cases h9 : k = 9 ∧ 1 < s[k].toNat
        · obtain ⟨h9, h91⟩ := h9
          have e : getR s.data.toList = (0, 0) := by rw [getR, HG.out, if_pos ⟨h9, h91⟩]
          have HE := Lib.hid e
          subst h9
          clear e
          go_wp2
          go_ret2
          exact ⟨by rw [HE.out]; rfl, rfl⟩
        · have hsplit : (k = 9 ∧ s[k].toNat ≤ 1) ∨ ((k : Int) == 9) = false := by
            by_cases h : k = 9
            · exact .inl ⟨h, by omega⟩
            · exact .inr (by simp; omega)
          by_cases h0 : s[k].toNat = 0 ∧ 0 < k
          · obtain ⟨h0, h01⟩ := h0
            have e : getR s.data.toList = (0, 0) := by rw [getR, HG.out, if_neg h9, if_pos ⟨h0, h01⟩]
            have HE := Lib.hid e
            have hz : ((s[k].toNat : Int) == 0) = true := by simp; omega
            clear e h9 h0
            rcases hsplit with ⟨rfl, h91⟩ | h9
            all_goals
              go_wp2
              go_ret2
              exact ⟨by rw [HE.out]; rfl, rfl⟩
          · have hg : Vi.get s.data.toList = some (Vi.val (s.data.toList.take (k + 1)), s.data.toList.drop (k + 1)) := by rw [HG.out, if_neg h9, if_neg h0]
            have hN := Vi.get_lt hg
            have e : getR s.data.toList = (Vi.val (s.data.toList.take (k + 1)), k + 1) := by
              rw [getR, hg]
              simp only [List.length_drop, Array.length_toList, ByteArray.size_data]
              rw [show s.size - (s.size - (k + 1)) = k + 1 from by omega]
            have HE := Lib.hid e
            have hz : (((s[k].toNat : Int) == 0) = false) ∨ (((s[k].toNat : Int) == 0) = true ∧ k ≤ 0) := by
              by_cases h : s[k].toNat = 0
              · exact .inr ⟨by simp; omega, by omega⟩
              · exact .inl (by simp; omega)
            have HV : Hid (∀ j, Vi.val ((s.data.toList.take (k + 1)).drop j) < 18446744073709551616) := fun j => Nat.lt_of_le_of_lt (val_drop_le _ j) hN
            clear e h9 h0 hg hN
            have hsp : (((k : Int) == 9) = false) ∨ ∃ h : 9 < s.size, (((k : Int) == 9) = true) ∧ s[9].toNat ≤ 1 ∧ 9 ≤ k := by
              rcases hsplit with ⟨rfl, h91⟩ | h9
              · exact .inr ⟨h1, by simp, h91, by omega⟩
              · exact .inl h9
            clear hsplit
            rcases hsp with h9 | ⟨h9s, h9, h91, h9g⟩ <;> rcases hz with hz | ⟨hz, hk0⟩ <;> rcases Nat.lt_or_ge 0 k with hkp | hkp
            all_goals first | (exfalso; omega) | skip
            all_goals
              go_wp2
              go_loop [5, 6] (fun n i => ∃ (j v : Nat), j ≤ k + 1 ∧ i = .int .i64 ((j : Int) - 1) ∧ n = .int .u64 (v : Nat) ∧ Hid (v = Vi.val ((s.data.toList.take (k + 1)).drop j))) (fun _ i => (intOf i + 1).toNat)
              case atStart =>
                refine ⟨k + 1, 0, by omega, val_int (by omega), rfl, ?_⟩
                show 0 = _
                rw [List.drop_of_length_le (by simp; omega)]; rfl
              case round =>
                obtain ⟨j, v, hj, rfl, rfl, HV2⟩ := hrel
                have HE2 := HE.out
                by_cases hj0 : j = 0
                · subst hj0
                  have hv : v = (getR s.data.toList).1 := by rw [HE2, HV2.out]; simp
                  have HF := Lib.hid hv
                  clear hv HE2
                  rw [show ((0 : Nat) : Int) - 1 = -1 from rfl]
                  go_wp2
                  go_ret2
                  exact ⟨by rw [HF.out, HE.out]; rfl, rfl⟩
                · obtain ⟨j, rfl⟩ : ∃ i, j = i + 1 := ⟨j - 1, by omega⟩
                  have hb := val_back s k j h1 (by omega)
                  rw [← HV2.out] at hb
                  have hlt := HV.out j
                  rw [hb] at hlt
                  have HB := Lib.hid hb
                  clear hb HE2
                  have hj1 : j < s.size := by omega
                  have huj := s[j].toNat_lt
                  rw [show ((j + 1 : Nat) : Int) - 1 = (j : Int) from by omega]
                  go_wp2
                  go_round
                  case rel =>
                    refine ⟨j, s[j].toNat % 128 + 128 * v, by omega, rfl, ?_, HB.out.symm⟩
                    exact val_int (by omega)
                  case measure => simp [intOf] <;> omega
end Go.Proofs.Ytominjooffecnaa.WVi
