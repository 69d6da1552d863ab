/- Plain words on deltas that are made (layer 6). No program in sight. -/
import Derived.Test.YtominjooffecnaaPDl
namespace Kn.Dl

theorem run_fuel (base : List UInt8) (size : Nat) : ∀ (n k k' : Nat) (out rest : List UInt8), rest.length ≤ n → rest.length ≤ k → rest.length ≤ k' → run k base size out rest = run k' base size out rest := by
  intro n
  induction n with
  | zero =>
    intro k k' out rest hn _ _
    have : rest = [] := List.eq_nil_of_length_eq_zero (by omega)
    subst this
    rw [run_nil, run_nil]
  | succ n ih =>
    intro k k' out rest hn hk hk'
    by_cases hr : rest = []
    · subst hr; rw [run_nil, run_nil]
    · have hpos : 0 < rest.length := List.length_pos_iff.2 hr
      obtain ⟨j, rfl⟩ : ∃ j, k = j + 1 := ⟨k - 1, by omega⟩
      obtain ⟨j', rfl⟩ : ∃ j, k' = j + 1 := ⟨k' - 1, by omega⟩
      rw [run, run, if_neg hr, if_neg hr]
      cases hs : step base rest with
      | none => rfl
      | some p =>
        obtain ⟨more, behind⟩ := p
        have hl := step_lt hs
        simp only
        split
        · rfl
        · exact ih j j' _ behind (by omega) (by omega) (by omega)

def runF (base : List UInt8) (size : Nat) (out rest : List UInt8) : Option (List UInt8) := run rest.length base size out rest

theorem runF_step {base : List UInt8} {size : Nat} {out rest more behind : List UInt8} (h : step base rest = some (more, behind)) (hb : out.length + more.length ≤ size) : runF base size out rest = runF base size (out ++ more) behind := by
  obtain ⟨j, hj, e⟩ := run_step (k := rest.length) (Nat.le_refl _) h (size := size) (out := out) (by omega)
  rw [runF, e, runF]
  exact run_fuel base size behind.length _ _ _ _ (Nat.le_refl _) hj (Nat.le_refl _)

/-- enc tells pre, to a base -/
def Ok (base pre enc : List UInt8) : Prop := ∀ (size : Nat) (out rest : List UInt8), out.length + pre.length ≤ size → runF base size out (enc ++ rest) = runF base size (out ++ pre) rest

theorem ok_nil (base : List UInt8) : Ok base [] [] := by
  intro size out rest _
  simp
theorem ok_app {base p1 p2 e1 e2 : List UInt8} (h1 : Ok base p1 e1) (h2 : Ok base p2 e2) : Ok base (p1 ++ p2) (e1 ++ e2) := by
  intro size out rest h
  simp at h
  rw [List.append_assoc, h1 size out _ (by omega), h2 size _ rest (by simp; omega), List.append_assoc]

def plainN (p : List UInt8) : List UInt8 := if p = [] then [] else Vi.put (2 * p.length) ++ p

theorem plain_le (p : List UInt8) : (plainN p).length ≤ p.length + 10 := by
  rw [plainN]
  split
  · simp
  · have := Vi.put_le (2 * p.length)
    simp; omega

theorem ok_plain (base p : List UInt8) (hp : p.length ≤ 100000) : Ok base p (plainN p) := by
  rw [plainN]
  split
  · rename_i h; subst h; exact ok_nil base
  · rename_i h
    have hpos : 0 < p.length := List.length_pos_iff.2 h
    intro size out rest hl
    refine runF_step ?_ hl
    rw [List.append_assoc, step, Vi.get_put _ (by omega)]
    simp only
    rw [show 2 * p.length / 2 = p.length from by omega, if_neg (by omega), if_pos (by omega), if_neg (by simp)]
    simp

theorem ok_copy (base : List UInt8) (a n : Nat) (hn : 1 ≤ n) (h : a + n ≤ base.length) (hb : base.length ≤ 100000) : Ok base ((base.drop a).take n) (Vi.put (2 * n + 1) ++ Vi.put a) := by
  intro size out rest hl
  refine runF_step ?_ hl
  rw [List.append_assoc, step, Vi.get_put _ (by omega)]
  simp only
  rw [show (2 * n + 1) / 2 = n from by omega, if_neg (by omega), if_neg (by omega), Vi.get_put _ (by omega)]
  simp only
  rw [if_neg (by omega), if_neg (by omega)]

/-- a delta, of its parts -/
def dl (base text out : List UInt8) : List UInt8 := Vi.put base.length ++ (Vi.put text.length ++ out)

theorem head_dl (base text out : List UInt8) (hb : base.length ≤ 100000) (ht : text.length ≤ 100000) : head (dl base text out) = some (base.length, text.length, out) := by
  rw [head, dl, Vi.get_put _ (by omega)]
  simp only
  rw [Vi.get_put _ (by omega)]

theorem apply_dl {base text out : List UInt8} (h : Ok base text out) (hb : base.length ≤ 100000) (ht : text.length ≤ 100000) (most : Int) (h0 : (text.length : Int) ≤ most) : apply base (dl base text out) most = (text, 0) := by
  have hr := h text.length [] [] (by simp)
  rw [List.append_nil, List.nil_append] at hr
  have e : runF base text.length text [] = some text := by rw [runF, run_nil, if_pos rfl]
  rw [e, runF] at hr
  rw [apply, if_neg (by omega), head_dl base text out hb ht]
  simp only
  rw [if_neg (by simp), if_neg (by omega), hr]
theorem apply_low {base text out : List UInt8} (hb : base.length ≤ 100000) (ht : text.length ≤ 100000) (most : Int) (h0 : 0 ≤ most) (h1 : most < (text.length : Int)) : apply base (dl base text out) most = ([], 3) := by
  rw [apply, if_neg (by omega), head_dl base text out hb ht]
  simp only
  rw [if_neg (by simp), if_pos h1]
theorem apply_neg (base d : List UInt8) (most : Int) (h0 : most < 0) : apply base d most = ([], 1) := by rw [apply, if_pos h0]
theorem apply_base {base b2 text out : List UInt8} (hb : base.length ≤ 100000) (ht : text.length ≤ 100000) (most : Int) (h0 : 0 ≤ most) (h1 : base.length ≠ b2.length) : apply b2 (dl base text out) most = ([], 6) := by
  rw [apply, if_neg (by omega), head_dl base text out hb ht]
  simp only
  rw [if_pos h1]
theorem size_dl {base text out : List UInt8} (hb : base.length ≤ 100000) (ht : text.length ≤ 100000) : size (dl base text out) = (text.length, 0) := by
  rw [size, head_dl base text out hb ht]
  simp only
  rw [if_neg (by omega)]
theorem dl_le (base text out : List UInt8) : (dl base text out).length ≤ out.length + 20 := by
  have := Vi.put_le base.length
  have := Vi.put_le text.length
  rw [dl]; simp; omega

/-- what four bytes are found by -/
def keyN : List UInt8 → Nat
  | a :: b :: c :: d :: _ => a.toNat + 256 * b.toNat + 65536 * c.toNat + 16777216 * d.toNat
  | _ => 0

theorem keyN_lt (l : List UInt8) : keyN l < 4294967296 := by
  match l with
  | [] => simp [keyN]
  | [_] => simp [keyN]
  | [_, _] => simp [keyN]
  | [_, _, _] => simp [keyN]
  | a :: b :: c :: d :: _ =>
    have := a.toNat_lt
    have := b.toNat_lt
    have := c.toNat_lt
    have := d.toNat_lt
    simp [keyN]; omega
theorem keyN_head {l m : List UInt8} (hl : 4 ≤ l.length) (hm : 4 ≤ m.length) (h : keyN l = keyN m) : l.head? = m.head? := by
  match l, m, hl, hm with
  | a :: b :: c :: d :: _, a' :: b' :: c' :: d' :: _, _, _ =>
    simp only [keyN] at h
    have := a.toNat_lt
    have := b.toNat_lt
    have := c.toNat_lt
    have := d.toNat_lt
    have := a'.toNat_lt
    have := b'.toNat_lt
    have := c'.toNat_lt
    have := d'.toNat_lt
    have e : a.toNat = a'.toNat := by omega
    have : a = a' := UInt8.toNat_inj.1 e
    subst this
    rfl
end Kn.Dl
