/- The number that four figures are. -/
import Derived.Test.YtominjooffecnaaWPkF
namespace Go.Proofs.Ytominjooffecnaa.WPk
open Go.RowKit Kn

def numF : Nat → Nat → List UInt8 → Option Nat
  | 0, m, _ => some m
  | _ + 1, _, [] => none
  | j + 1, m, c :: t => match Pkt.unfig c with | none => none | some d => numF j (16 * m + d) t

theorem numF_number (s : List UInt8) (h : 4 ≤ s.length) : numF 4 0 s = Pkt.number s := by
  match s, h with
  | a :: b :: c :: d :: r, _ =>
    simp only [numF, Pkt.number]
    cases Pkt.unfig a with
    | none => rfl
    | some a =>
      cases Pkt.unfig b with
      | none => rfl
      | some b =>
        cases Pkt.unfig c with
        | none => rfl
        | some c =>
          cases Pkt.unfig d with
          | none => rfl
          | some d => simp; omega

theorem number_short (s : List UInt8) (h : s.length < 4) : Pkt.number s = none := by
  match s, h with
  | [], _ => rfl
  | [_], _ => rfl
  | [_, _], _ => rfl
  | [_, _, _], _ => rfl

/-- the number, or -1 -/
def numI (o : Option Nat) : Int := match o with | none => -1 | some n => (n : Int)

theorem or16 (m d : Nat) (hm : m < 65536) (hd : d < 16) : bits .or .i64 ((m : Int) * 16) (d : Int) = ((16 * m + d : Nat) : Int) := by
  have h := i64_or_nat (m * 16) d (by omega) (by omega)
  rw [nat_join 4 (m * 16) d (by omega) (by omega)] at h
  rw [show ((m : Int) * 16) = ((m * 16 : Nat) : Int) from by omega, h]
  omega

theorem drop_at (s : ByteArray) (k : Nat) (h : k < s.size) : s.data.toList.drop k = s[k] :: s.data.toList.drop (k + 1) := by
  rw [List.drop_eq_getElem_cons (by simpa using h)]; rfl

set_option maxRecDepth 100000 in
set_option maxHeartbeats 1000000 in
theorem number_any (s : ByteArray) (w : World) (hs : s.size ≤ 9223372036854775807) :
    Calls Try.prog 69 #[.string s] w fun e w' => e = .returned (.int .i64 (numI (Pkt.number s.data.toList))) ∧ w = w' := by
  by_cases h4 : s.size < 4
  · have HN := Lib.hid (number_short s.data.toList (by simpa using h4))
    go_enter Try.func69, Try.ntmps69
    go_wp2
    go_ret
    exact ⟨by rw [HN.out]; rfl, rfl⟩
  · have HN := Lib.hid (numF_number s.data.toList (by simp; omega))
    have h4' : 4 ≤ s.size := by omega
    clear h4
    go_enter Try.func69, Try.ntmps69
    go_wp2
    go_loop [3, 9] (fun n i => ∃ k m : Nat, k ≤ 4 ∧ i = .int .i64 k ∧ n = .int .i64 m ∧ Hid (m < 16 ^ k) ∧ Hid (numF (4 - k) m (s.data.toList.drop k) = Pkt.number s.data.toList)) (fun _ i => 4 - (intOf i).toNat)
    case atStart => exact ⟨0, 0, by omega, rfl, rfl, by show 0 < _; simp, HN⟩
    case round =>
      clear HN
      obtain ⟨k, m, hk, rfl, rfl, hm, HN⟩ := hrel
      by_cases hlt : k < 4
      · have hks : k < s.size := by omega
        have hm4 : m < 4096 := by
          have := hm.out
          have h2 : 16 ^ k ≤ 16 ^ 3 := Nat.pow_le_pow_right (by omega) (by omega)
          omega
        have hstep : numF (4 - k) m (s.data.toList.drop k) = (match Pkt.unfig s[k] with | none => none | some d => numF (4 - (k + 1)) (16 * m + d) (s.data.toList.drop (k + 1))) := by
          rw [drop_at s k hks, show 4 - k = (4 - (k + 1)) + 1 from by omega, numF]
        rw [HN.out] at hstep
        have hidx := hex_idx s[k]
        go_wp2_with fail
        refine (idx_any _ _ _).mono ?_
        rintro e w1 ⟨rfl, rfl⟩
        rw [show (⟨#[48, 49, 50, 51, 52, 53, 54, 55, 56, 57, 97, 98, 99, 100, 101, 102]⟩ : ByteArray).data.toList = hexL from rfl, hidx]
        cases hu : Pkt.unfig s[k] with
        | none =>
          rw [hu] at hstep
          have HS := Lib.hid hstep
          clear hidx hu hstep HN
          go_wp2
          go_ret
          exact ⟨by rw [HS.out]; rfl, rfl⟩
        | some d =>
          rw [hu] at hstep
          have hd := (Pkt.fig_unfig hu).1
          have HS := Lib.hid hstep
          have HO := Lib.hid (or16 m d (by omega) hd)
          clear hidx hu hstep HN
          go_wp2
          go_round
          case rel =>
            refine ⟨k + 1, 16 * m + d, by omega, by go_num, val_int HO.out, ?_, HS.out.symm⟩
            show _ < _
            have := hm.out
            rw [Nat.pow_succ]
            omega
          case measure => simp [intOf]; omega
      · obtain rfl : k = 4 := by omega
        have HS := Lib.hid (show Pkt.number s.data.toList = some m by rw [← HN.out]; rfl)
        clear HN
        go_wp2
        go_ret
        exact ⟨by rw [HS.out]; rfl, rfl⟩
end Go.Proofs.Ytominjooffecnaa.WPk
