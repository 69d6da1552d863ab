/- The walk of the law CrcTells: it returns true, and what was there stays. -/
import Derived.Test.YtominjooffecnaaWCrcS
namespace Go.Proofs.Ytominjooffecnaa.CrcTellsW
open Go.RowKit Kn

set_option maxHeartbeats 400000 in
theorem walk (s : ByteArray) (_hs : s.size ≤ 140737488351232) (w : World) :
    Calls Try.prog 6 #[.string s] w fun e w' => e = .returned (.bool true) ∧ Below w.heap.size w w' := by
  by_cases h : s.size ≤ 400
  · go_enter Try.func6, Try.ntmps6
    go_wp2_with fail
    refine (WCrc.open_any _ _ (by omega)).mono ?_
    rintro e w1 ⟨rfl, hb1⟩
    go_wp2_with fail
    refine (WCrcR.open_any _ _ (by omega)).mono ?_
    rintro e w2 ⟨rfl, hb2⟩
    go_wp2_with fail
    refine (WCrcR.knows_any _).mono ?_
    rintro e w3 ⟨rfl, hb3⟩
    go_wp2_with fail
    refine (WCrc.sum_any _ _ (by omega)).mono ?_
    rintro e w4 ⟨rfl, rfl⟩
    go_wp2_with fail
    refine (WCrcR.sum_any _ _ (by omega)).mono ?_
    rintro e w5 ⟨rfl, hb5⟩
    go_wp2_with fail
    refine (WCrc.seal_any _ _ (by omega)).mono ?_
    rintro e w6 ⟨rfl, hb6⟩
    go_wp2_with fail
    refine (WCrcR.seal_any _ _ (by omega)).mono ?_
    rintro e w7 ⟨rfl, hb7⟩
    go_wp2
    go_ret
    exact ⟨rfl, bnext (bnext (bnext (bnext (bnext hb1 hb2) hb3) hb5) hb6) hb7⟩
  · have h4 : (400 : Int) < s.size := by omega
    go_enter Try.func6, Try.ntmps6
    go_wp2_with fail
    refine (WCrcR.knows_any _).mono ?_
    rintro e w3 ⟨rfl, hb3⟩
    go_wp2
    go_ret
    exact ⟨rfl, hb3⟩
end Go.Proofs.Ytominjooffecnaa.CrcTellsW
