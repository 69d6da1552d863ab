/- Plain facts on the streams' lines of layer 8 (band). No program in sight. -/
import Derived.Test.YtominjooffecnaaPPkt
namespace Kn.Bd
open Kn.Pkt (Ln)

/-- a text cut into lines of n bytes: p is what lies in the line begun -/
def cut (b : UInt8) (n : Nat) : List UInt8 → List UInt8 → List Ln
  | p, [] => if p = [] then [] else [⟨0, b :: p⟩]
  | p, x :: r => if p.length + 1 = n then ⟨0, b :: (p ++ [x])⟩ :: cut b n [] r else cut b n (p ++ [x]) r

theorem cut_nil (b : UInt8) (n : Nat) : cut b n [] [] = [] := rfl

theorem cut_take (b : UInt8) (n : Nat) : ∀ (r p : List UInt8), p.length < n → p ++ r ≠ [] → cut b n p r = ⟨0, b :: (p ++ r).take n⟩ :: cut b n [] ((p ++ r).drop n) := by
  intro r
  induction r with
  | nil =>
    intro p hp hne
    rw [List.append_nil] at hne ⊢
    rw [cut, if_neg hne, List.take_of_length_le (by omega), List.drop_of_length_le (by omega), cut_nil]
  | cons x r ih =>
    intro p hp _
    rw [cut]
    split
    · rename_i h
      have e : p ++ x :: r = (p ++ [x]) ++ r := by simp
      rw [e, List.take_left' (by simp; omega), List.drop_left' (by simp; omega)]
    · rename_i h
      rw [ih (p ++ [x]) (by simp; omega) (by simp)]
      simp

theorem cut_step (b : UInt8) (n : Nat) (t : List UInt8) (hn : 0 < n) (ht : t ≠ []) : cut b n [] t = ⟨0, b :: t.take n⟩ :: cut b n [] (t.drop n) := by
  have := cut_take b n t [] (by simpa using hn) (by simpa using ht)
  simpa using this

theorem cut_last (b : UInt8) (n : Nat) (p : List UInt8) (x : UInt8) : cut b n p [x] = [⟨0, b :: (p ++ [x])⟩] := by
  rw [cut]
  split
  · rw [cut_nil]
  · rw [cut, if_neg (by simp)]

theorem cut_length (b : UInt8) (n : Nat) : ∀ (r p : List UInt8), (cut b n p r).length ≤ p.length + r.length := by
  intro r
  induction r with
  | nil =>
    intro p
    rw [cut]
    split
    · simp
    · have : 0 < p.length := List.length_pos_iff.2 ‹_›
      simp; omega
  | cons x r ih =>
    intro p
    rw [cut]
    split
    · have := ih []
      simp at this ⊢; omega
    · have := ih (p ++ [x])
      simp at this ⊢; omega

end Kn.Bd
