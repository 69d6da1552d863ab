/- Plain words on the deltas of layer 6. No program in sight. -/
import Derived.Test.YtominjooffecnaaPVi
namespace Kn.Dl

/-- a step: the bytes that it adds, and what stands behind it -/
def step (base d : List UInt8) : Option (List UInt8 × List UInt8) :=
  match Vi.get d with
  | none => none
  | some (n, r) =>
    if n / 2 = 0 then none
    else if n % 2 = 0 then (if r.length < n / 2 then none else some (r.take (n / 2), r.drop (n / 2)))
    else match Vi.get r with
      | none => none
      | some (at_, r') => if base.length < at_ then none else if base.length - at_ < n / 2 then none else some ((base.drop at_).take (n / 2), r')

theorem get_rest {s : List UInt8} {n : Nat} {r : List UInt8} (h : Vi.get s = some (n, r)) : r.length + 1 ≤ s.length := by
  have := Vi.get_eq h
  have h2 := Vi.put_pos n
  rw [this]; simp; omega

theorem step_lt {base d more behind : List UInt8} (h : step base d = some (more, behind)) : behind.length < d.length ∧ 0 < more.length ∧ more.length ≤ base.length + d.length := by
  unfold step at h
  split at h
  · cases h
  · rename_i n r hg
    have h1 := get_rest hg
    split at h
    · cases h
    · split at h
      · split at h
        · cases h
        · injection h with h; injection h with h2 h3; subst h2 h3
          simp; omega
      · split at h
        · cases h
        · rename_i a r' hg'
          have h1' := get_rest hg'
          split at h
          · cases h
          · split at h
            · cases h
            · injection h with h; injection h with h2 h3; subst h2 h3
              simp; omega

/-- all steps -/
def run : Nat → List UInt8 → Nat → List UInt8 → List UInt8 → Option (List UInt8)
  | 0, _, size, out, rest => if rest = [] then (if out.length = size then some out else none) else none
  | k + 1, base, size, out, rest => if rest = [] then (if out.length = size then some out else none) else
    match step base rest with
    | none => none
    | some (more, behind) => if size - out.length < more.length then none else run k base size (out ++ more) behind

theorem run_nil (k : Nat) (base : List UInt8) (size : Nat) (out : List UInt8) : run k base size out [] = if out.length = size then some out else none := by
  cases k <;> simp [run]

theorem run_none {k : Nat} {base : List UInt8} {size : Nat} {out rest : List UInt8} (hr : rest ≠ []) (h : step base rest = none) : run k base size out rest = none := by
  cases k with
  | zero => simp [run, hr]
  | succ k => rw [run, if_neg hr, h]

theorem run_big {k : Nat} {base : List UInt8} {size : Nat} {out rest more behind : List UInt8} (hr : rest ≠ []) (h : step base rest = some (more, behind)) (hb : size - out.length < more.length) : run k base size out rest = none := by
  cases k with
  | zero => simp [run, hr]
  | succ k => rw [run, if_neg hr, h]; simp only; rw [if_pos hb]

theorem run_step {k : Nat} {base : List UInt8} {size : Nat} {out rest more behind : List UInt8} (hk : rest.length ≤ k) (h : step base rest = some (more, behind)) (hb : ¬ size - out.length < more.length) :
    ∃ j, behind.length ≤ j ∧ run k base size out rest = run j base size (out ++ more) behind := by
  have hl := step_lt h
  have hr : rest ≠ [] := by intro e; subst e; simp at hl
  cases k with
  | zero => simp at hk; exact absurd hk hr
  | succ k =>
    refine ⟨k, by omega, ?_⟩
    rw [run, if_neg hr, h]
    simp only
    rw [if_neg hb]

/-- the two numbers that a delta begins with, and what stands behind them -/
def head (d : List UInt8) : Option (Nat × Nat × List UInt8) :=
  match Vi.get d with
  | none => none
  | some (b, r) => match Vi.get r with
    | none => none
    | some (t, r') => some (b, t, r')

/-- the text, and the error's number -/
def apply (base d : List UInt8) (most : Int) : List UInt8 × Nat :=
  if most < 0 then ([], 1)
  else match head d with
    | none => ([], 2)
    | some (has, size, rest) =>
      if has ≠ base.length then ([], 6)
      else if most < (size : Int) then ([], 3)
      else match run rest.length base size [] rest with
        | none => ([], 2)
        | some out => (out, 0)

/-- how many bytes a delta's text has, and the error's number -/
def size (d : List UInt8) : Nat × Nat :=
  match head d with
  | none => (0, 2)
  | some (_, t, _) => if 2147483647 < t then (0, 2) else (t, 0)

theorem head_lt {d : List UInt8} {b t : Nat} {r : List UInt8} (h : head d = some (b, t, r)) : b < 18446744073709551616 ∧ t < 18446744073709551616 ∧ r.length + 2 ≤ d.length := by
  unfold head at h
  split at h
  · cases h
  · rename_i b' r1 hg
    split at h
    · cases h
    · rename_i t' r2 hg2
      injection h with h; injection h with h1 h2; injection h2 with h2 h3; subst h1 h2 h3
      have := get_rest hg
      have := get_rest hg2
      exact ⟨Vi.get_lt hg, Vi.get_lt hg2, by omega⟩

end Kn.Dl
