/- Plain facts on the numbers of layer 1 (varint): what is put is got. No program in sight. -/
namespace Kn.Vi

def putF : Nat → Nat → List UInt8
  | 0, n => [UInt8.ofNat n]
  | k + 1, n => if n < 128 then [UInt8.ofNat n] else UInt8.ofNat (128 + n % 128) :: putF k (n / 128)

def put (n : Nat) : List UInt8 := putF 9 n

def getF : Nat → Nat → Nat → List UInt8 → Option (Nat × List UInt8)
  | 0, _, _, _ => none
  | _ + 1, _, _, [] => none
  | k + 1, i, acc, c :: t =>
    if k = 0 ∧ 1 < c.toNat then none
    else if 128 ≤ c.toNat then getF k (i + 1) (acc + (c.toNat % 128) * 128 ^ i) t
    else if c.toNat = 0 ∧ 0 < i then none
    else some (acc + c.toNat * 128 ^ i, t)

def get (s : List UInt8) : Option (Nat × List UInt8) := getF 10 0 0 s

theorem ofNat_toNat' (c : UInt8) : UInt8.ofNat c.toNat = c := by simp

theorem toNat_ofNat' {n : Nat} (h : n < 256) : (UInt8.ofNat n).toNat = n := by
  simp [UInt8.toNat_ofNat']; omega

theorem getF_iff : ∀ (k i acc : Nat) (s : List UInt8) (n : Nat) (r : List UInt8),
    getF (k + 1) i acc s = some (n, r) ↔ ∃ m, m < 2 * 128 ^ k ∧ (i = 0 ∨ 0 < m) ∧ n = acc + m * 128 ^ i ∧ s = putF k m ++ r := by
  intro k
  induction k with
  | zero =>
    intro i acc s n r
    cases s with
    | nil => simp [getF, putF]
    | cons c t =>
      have hc := c.toNat_lt
      have e : getF (0 + 1) i acc (c :: t) = if 1 < c.toNat then none else if c.toNat = 0 ∧ 0 < i then none else some (acc + c.toNat * 128 ^ i, t) := by
        rw [getF]
        by_cases h : 1 < c.toNat
        · rw [if_pos ⟨rfl, h⟩, if_pos h]
        · rw [if_neg (fun x => h x.2), if_neg h, if_neg (by omega)]
      rw [e]
      simp only [putF]
      constructor
      · intro h
        split at h
        · cases h
        · split at h
          · cases h
          · injection h with h
            injection h with h1 h2
            subst h2
            refine ⟨c.toNat, by omega, by omega, h1.symm, by simp⟩
      · rintro ⟨m, hm, hi, rfl, hs⟩
        simp only [List.cons_append, List.nil_append, List.cons.injEq] at hs
        obtain ⟨rfl, rfl⟩ := hs
        rw [toNat_ofNat' (by omega)]
        rw [if_neg (by omega), if_neg (by omega)]
  | succ k ih =>
    intro i acc s n r
    cases s with
    | nil =>
      simp only [getF]
      constructor
      · intro h; cases h
      · rintro ⟨m, _, _, _, hs⟩
        unfold putF at hs
        split at hs <;> simp at hs
    | cons c t =>
      have hc := c.toNat_lt
      have e : getF (k + 1 + 1) i acc (c :: t) = if 128 ≤ c.toNat then getF (k + 1) (i + 1) (acc + (c.toNat % 128) * 128 ^ i) t
        else if c.toNat = 0 ∧ 0 < i then none else some (acc + c.toNat * 128 ^ i, t) := by
        rw [getF]
        rw [if_neg (by omega)]
      rw [e]
      have p1 : 128 ^ (i + 1) = 128 * 128 ^ i := by rw [Nat.pow_succ, Nat.mul_comm]
      have p2 : 128 ^ (k + 1) = 128 * 128 ^ k := by rw [Nat.pow_succ, Nat.mul_comm]
      have p3 : 0 < 128 ^ k := Nat.pow_pos (by omega)
      by_cases hb : 128 ≤ c.toNat
      · rw [if_pos hb, ih]
        constructor
        · rintro ⟨m, hm, hi, rfl, rfl⟩
          refine ⟨c.toNat % 128 + 128 * m, by omega, by omega, ?_, ?_⟩
          · rw [p1, Nat.add_mul, Nat.mul_comm 128 m, Nat.mul_assoc, Nat.add_assoc]
          · rw [putF, if_neg (by omega)]
            have e1 : (128 + (c.toNat % 128 + 128 * m) % 128) = c.toNat := by omega
            have e2 : (c.toNat % 128 + 128 * m) / 128 = m := by omega
            rw [e1, e2, ofNat_toNat']
            rfl
        · rintro ⟨m, hm, hi, rfl, hs⟩
          rw [putF] at hs
          split at hs
          · rename_i hlt
            simp only [List.cons_append, List.nil_append, List.cons.injEq] at hs
            obtain ⟨rfl, rfl⟩ := hs
            rw [toNat_ofNat' (by omega)] at hb
            omega
          · rename_i hlt
            simp only [List.cons_append, List.cons.injEq] at hs
            obtain ⟨rfl, rfl⟩ := hs
            rw [toNat_ofNat' (by omega)]
            refine ⟨m / 128, by omega, by omega, ?_, rfl⟩
            rw [p1, ← Nat.mul_assoc, Nat.add_assoc, ← Nat.add_mul]
            congr 2
            omega
      · rw [if_neg hb]
        constructor
        · intro h
          split at h
          · cases h
          · injection h with h
            injection h with h1 h2
            subst h2
            refine ⟨c.toNat, by omega, by omega, h1.symm, ?_⟩
            rw [putF, if_pos (by omega)]
            simp
        · rintro ⟨m, hm, hi, rfl, hs⟩
          rw [putF] at hs
          split at hs
          · rename_i hlt
            simp only [List.cons_append, List.nil_append, List.cons.injEq] at hs
            obtain ⟨rfl, rfl⟩ := hs
            rw [toNat_ofNat' (by omega)]
            rw [if_neg (by omega)]
          · rename_i hlt
            simp only [List.cons_append, List.cons.injEq] at hs
            obtain ⟨rfl, rfl⟩ := hs
            rw [toNat_ofNat' (by omega)] at hb
            omega

theorem get_iff (s : List UInt8) (n : Nat) (r : List UInt8) : get s = some (n, r) ↔ n < 18446744073709551616 ∧ s = put n ++ r := by
  unfold get put
  rw [getF_iff 9 0 0 s n r]
  constructor
  · rintro ⟨m, hm, _, rfl, rfl⟩
    have e : 0 + m * 128 ^ 0 = m := by omega
    rw [e]
    exact ⟨by omega, rfl⟩
  · rintro ⟨hn, rfl⟩
    exact ⟨n, by omega, .inl rfl, by omega, rfl⟩

theorem get_put (n : Nat) (hn : n < 18446744073709551616) (r : List UInt8) : get (put n ++ r) = some (n, r) :=
  (get_iff _ _ _).2 ⟨hn, rfl⟩

theorem putF_ne (k n : Nat) : putF k n ≠ [] := by
  cases k with
  | zero => simp [putF]
  | succ k => rw [putF]; split <;> simp

theorem putF_le : ∀ (k n : Nat), (putF k n).length ≤ k + 1 := by
  intro k
  induction k with
  | zero => intro n; simp [putF]
  | succ k ih =>
    intro n
    rw [putF]
    split
    · simp
    · have := ih (n / 128); simp; omega

theorem put_ne (n : Nat) : put n ≠ [] := putF_ne _ _
theorem put_le (n : Nat) : (put n).length ≤ 10 := putF_le _ _
theorem put_pos (n : Nat) : 0 < (put n).length := List.length_pos_iff.2 (put_ne n)

theorem get_lt {s : List UInt8} {n : Nat} {r : List UInt8} (h : get s = some (n, r)) : n < 18446744073709551616 := ((get_iff _ _ _).1 h).1
theorem get_eq {s : List UInt8} {n : Nat} {r : List UInt8} (h : get s = some (n, r)) : s = put n ++ r := ((get_iff _ _ _).1 h).2

/-- a text's bytes -/
def text (t : List UInt8) : List UInt8 := put t.length ++ t

/-- the text that a text begins with -/
def take (s : List UInt8) : Option (List UInt8 × List UInt8) :=
  match get s with
  | none => none
  | some (n, r) => if r.length < n then none else some (r.take n, r.drop n)

theorem take_iff (s t r : List UInt8) (hs : s.length < 18446744073709551616) : take s = some (t, r) ↔ s = text t ++ r := by
  unfold take text
  constructor
  · intro h
    split at h
    · cases h
    · rename_i n q hg
      obtain ⟨_, rfl⟩ := (get_iff _ _ _).1 hg
      split at h
      · cases h
      · rename_i hlt
        injection h with h
        injection h with h1 h2
        subst h1 h2
        have : (q.take n).length = n := by rw [List.length_take]; omega
        rw [this, List.append_assoc, List.take_append_drop]
  · rintro rfl
    have hl : t.length < 18446744073709551616 := by simp at hs; omega
    rw [List.append_assoc, get_put _ hl]
    simp only
    rw [if_neg (by simp)]
    simp

/-- Horner, from the last byte on -/
def val : List UInt8 → Nat
  | [] => 0
  | c :: t => c.toNat % 128 + 128 * val t

theorem getF_end : ∀ (p : List UInt8) (k i acc : Nat) (c : UInt8) (r : List UInt8), (∀ x ∈ p, 128 ≤ x.toNat) → c.toNat < 128 → p.length ≤ k →
    getF (k + 1) i acc (p ++ c :: r) = if p.length = k ∧ 1 < c.toNat then none else if c.toNat = 0 ∧ 0 < i + p.length then none else some (acc + val (p ++ [c]) * 128 ^ i, r) := by
  intro p
  induction p with
  | nil =>
    intro k i acc c r _ hc _
    simp only [List.nil_append, getF, List.length_nil]
    rw [if_neg (show ¬ 128 ≤ c.toNat by omega)]
    have : val [c] = c.toNat := by simp [val]; omega
    rw [this]
    congr 1
    exact propext ⟨fun h => ⟨h.1.symm, h.2⟩, fun h => ⟨h.1.symm, h.2⟩⟩
  | cons x p ih =>
    intro k i acc c r hp hc hk
    have hx := hp x (by simp)
    obtain ⟨k, rfl⟩ : ∃ j, k = j + 1 := ⟨k - 1, by simp at hk; omega⟩
    rw [List.cons_append, getF, if_neg (by omega), if_pos hx, ih k _ _ c r (fun y hy => hp y (by simp [hy])) hc (by simp at hk; omega)]
    have p1 : 128 ^ (i + 1) = 128 * 128 ^ i := by rw [Nat.pow_succ, Nat.mul_comm]
    have e : acc + x.toNat % 128 * 128 ^ i + val (p ++ [c]) * 128 ^ (i + 1) = acc + val (x :: p ++ [c]) * 128 ^ i := by
      simp only [List.cons_append, val]
      rw [p1, Nat.add_mul, Nat.mul_comm 128 (val _), Nat.mul_assoc, Nat.add_assoc]
    rw [e]
    have e2 : (p.length = k ∧ 1 < c.toNat) ↔ ((x :: p).length = k + 1 ∧ 1 < c.toNat) := by simp
    have e3 : (c.toNat = 0 ∧ 0 < i + 1 + p.length) ↔ (c.toNat = 0 ∧ 0 < i + (x :: p).length) := by simp; intro _; omega
    simp only [e2, e3]

theorem getF_none : ∀ (p : List UInt8) (k i acc : Nat) (r : List UInt8), (∀ x ∈ p, 128 ≤ x.toNat) → (p.length = k ∨ r = []) → p.length ≤ k →
    getF k i acc (p ++ r) = none := by
  intro p
  induction p with
  | nil =>
    intro k i acc r _ h _
    rcases h with h | h
    · simp at h; subst h; simp [getF]
    · subst h; cases k <;> simp [getF]
  | cons x p ih =>
    intro k i acc r hp h hk
    have hx := hp x (by simp)
    obtain ⟨k, rfl⟩ : ∃ j, k = j + 1 := ⟨k - 1, by simp at hk; omega⟩
    rw [List.cons_append, getF]
    by_cases h0 : k = 0 ∧ 1 < x.toNat
    · rw [if_pos h0]
    · rw [if_neg h0, if_pos hx]
      exact ih k _ _ r (fun y hy => hp y (by simp [hy])) (by simpa using h) (by simp at hk; omega)

end Kn.Vi
