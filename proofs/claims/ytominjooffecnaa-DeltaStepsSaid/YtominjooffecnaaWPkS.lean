/- What Same computes at two slices that read as one list. -/
import Derived.Test.YtominjooffecnaaWPkA
import Derived.Laws.StructEq
namespace Go.Proofs.Ytominjooffecnaa.WPk
open Go.RowKit Kn

theorem below_drewN {B : Nat} {a w : World} (h : Below B a w) (n : Nat) : Below B a (w.drewN n) := ⟨h.os, h.tape, h.output, h.size, h.block⟩

theorem part67a (k : Int) (s : ByteArray) (W : World) : (part 3 #[.int .i64 k, .string s] 0).run Try.prog W = .ok (.int .i64 k) W := by kernel_rfl
theorem part67b (k : Int) (s : ByteArray) (W : World) : (part 9 #[.int .i64 k, .string s] 1).run Try.prog W = .ok (.string s) W := by kernel_rfl

theorem neq67 (k : Int) (s : ByteArray) (W : World) : (binOp .neq 67 (.agg #[.int .i64 k, .string s]) (.agg #[.int .i64 k, .string s])).run Try.prog W = .ok (.bool false) W := by
  have hf : Try.prog.fieldsOf 67 = #[{ name := "Kind", type := 3, offset := 0, embedded := false, tag := "", pkgPath := "", byteOffset := 0 },
        { name := "Load", type := 9, offset := 1, embedded := false, tag := "", pkgPath := "", byteOffset := 8 }] := by kernel_rfl
  have hs : Try.prog.stoodInHeld 67 = false := by kernel_rfl
  have hu : Try.prog.underlying 67 = some (.struct (Try.prog.fieldsOf 67)) := by kernel_rfl
  have h3 : (Op.equalIn 9999 3 (.int .i64 k) (.int .i64 k)).run Try.prog W = .ok (k == k) W := run_equalIn_int (P := Try.prog) W 9998 3 .i64 .i64 k k Try.underlying3
  have h9 : (Op.equalIn 9999 9 (.string s) (.string s)).run Try.prog W = .ok (s.toList == s.toList) W := run_equalIn_string (P := Try.prog) W 9998 9 s s Try.underlying9
  rw [run_neq_struct, run_equalIn_struct W 9999 67 _ _ hu hs, hf]
  have p3 := part67a k s W
  have p9 := part67b k s W
  simp [Op.eqFields, h3, h9, p3, p9]

set_option maxRecDepth 100000 in
set_option maxHeartbeats 1000000 in
theorem same_any (A1 A2 : Option Addr) (c1 c2 : Nat) (L : List Pkt.Ln) (w : World) (h1 : L.length ≤ c1) (hm1 : c1 ≤ 9223372036854775807) (p1 : Pk w A1 L) (p2 : Pk w A2 L) :
    Calls Try.prog 21 #[.slice A1 L.length c1, .slice A2 L.length c2] w fun e w' => e = .returned (.int .i64 1) ∧ Below w.heap.size w w' := by
  have hne := neq67
  go_enter Try.func21, Try.ntmps21
  go_wp2
  go_loopw [5] (fun i wr => ∃ k : Nat, k ≤ L.length ∧ i = .int .i64 k ∧ Below w.heap.size w wr) (fun i _ => L.length - (intOf i).toNat)
  case atStart => exact ⟨0, Nat.zero_le _, rfl, Below.refl _ _⟩
  case round =>
    obtain ⟨k, hk, rfl, hbel⟩ := hrel
    by_cases hlt : k < L.length
    · have q1 := p1.below hbel
      have q2 := p2.below hbel
      rcases q1 with h0 | ⟨b1, o1, rfl, hb1, hc1⟩
      · rw [h0] at hlt; simp at hlt
      · rcases q2 with h0 | ⟨b2, o2, rfl, hb2, hc2⟩
        · rw [h0] at hlt; simp at hlt
        · obtain ⟨x1, y1⟩ := hc1 k hlt
          obtain ⟨x2, y2⟩ := hc2 k hlt
          have hlt' : (k : Int) < (L.length : Int) := by omega
          have hk0 : (0 : Int) ≤ (k : Int) := by omega
          clear hc1 hc2
          go_wp2
          go_quiet (fail)
          go_wp2
          go_roundw
          case rel => exact ⟨k + 1, by omega, by go_num, below_drewN hbel _⟩
          case measure => simp [intOf]; omega
    · obtain rfl : k = L.length := by omega
      go_wp2
      go_ret
      exact ⟨rfl, hbel⟩
end Go.Proofs.Ytominjooffecnaa.WPk
