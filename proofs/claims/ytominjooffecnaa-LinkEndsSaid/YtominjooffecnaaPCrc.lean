/- Plain facts on the sum of layer 3 (CRC-32): the sum by a register is the sum by long division; with one byte another one the sum is another one. No program in sight. -/
namespace Kn.Crc

def poly : Nat := 3988292384

/-- one step of the register -/
def step (c : Nat) : Nat := if c % 2 = 1 then (c / 2) ^^^ poly else c / 2

def steps : Nat → Nat → Nat
  | 0, c => c
  | k + 1, c => steps k (step c)

/-- a byte goes in -/
def feed (c : Nat) (b : UInt8) : Nat := steps 8 (c ^^^ b.toNat)

def run (c : Nat) (s : List UInt8) : Nat := s.foldl feed c

def sum (s : List UInt8) : Nat := 4294967295 - run 4294967295 s

def tail4 (n : Nat) : List UInt8 := [UInt8.ofNat (n % 256), UInt8.ofNat (n / 256 % 256), UInt8.ofNat (n / 65536 % 256), UInt8.ofNat (n / 16777216)]

def seal_ (s : List UInt8) : List UInt8 := s ++ tail4 (sum s)

theorem step_lt {c : Nat} (h : c < 4294967296) : step c < 4294967296 := by
  unfold step poly
  split
  · exact Nat.xor_lt_two_pow (n := 32) (by omega) (by omega)
  · omega

theorem steps_lt : ∀ (k : Nat) {c : Nat}, c < 4294967296 → steps k c < 4294967296 := by
  intro k
  induction k with
  | zero => intro c h; exact h
  | succ k ih => intro c h; exact ih (step_lt h)

theorem xor_lt {a b : Nat} (h : a < 4294967296) (hb : b < 4294967296) : a ^^^ b < 4294967296 := Nat.xor_lt_two_pow (n := 32) h hb

theorem feed_lt {c : Nat} (h : c < 4294967296) (b : UInt8) : feed c b < 4294967296 := by
  have := b.toNat_lt
  exact steps_lt 8 (xor_lt h (by omega))

theorem run_lt : ∀ (s : List UInt8) {c : Nat}, c < 4294967296 → run c s < 4294967296 := by
  intro s
  induction s with
  | nil => intro c h; exact h
  | cons b s ih => intro c h; exact ih (feed_lt h b)

theorem run_append (c : Nat) (a b : List UInt8) : run c (a ++ b) = run (run c a) b := by simp [run, List.foldl_append]

theorem sum_lt (s : List UInt8) : sum s < 4294967296 := by unfold sum; omega

/-! ### one byte another one -/

theorem step_bit31 {c : Nat} (h : c < 4294967296) : (step c).testBit 31 = decide (c % 2 = 1) := by
  unfold step
  have h2 : (c / 2).testBit 31 = false := Nat.testBit_lt_two_pow (by omega)
  split
  · rename_i h1
    rw [Nat.testBit_xor, h2]
    simp [h1]
    decide
  · rename_i h1
    rw [h2]
    simp [h1]

theorem step_inj {a b : Nat} (ha : a < 4294967296) (hb : b < 4294967296) (h : step a = step b) : a = b := by
  have h31 : decide (a % 2 = 1) = decide (b % 2 = 1) := by rw [← step_bit31 ha, ← step_bit31 hb, h]
  have hi : a % 2 = 1 ↔ b % 2 = 1 := by simpa using h31
  unfold step at h
  by_cases h1 : a % 2 = 1
  · rw [if_pos h1, if_pos (hi.1 h1)] at h
    have : a / 2 = b / 2 := by
      have := congrArg (· ^^^ poly) h
      simpa [Nat.xor_assoc] using this
    have := hi.1 h1
    omega
  · rw [if_neg h1, if_neg (fun x => h1 (hi.2 x))] at h
    omega

theorem steps_inj : ∀ (k : Nat) {a b : Nat}, a < 4294967296 → b < 4294967296 → steps k a = steps k b → a = b := by
  intro k
  induction k with
  | zero => intro a b _ _ h; exact h
  | succ k ih => intro a b ha hb h; exact step_inj ha hb (ih (step_lt ha) (step_lt hb) h)

theorem xor_cancel_right {a b x : Nat} (h : a ^^^ x = b ^^^ x) : a = b := by
  have := congrArg (· ^^^ x) h
  simpa [Nat.xor_assoc] using this
theorem xor_cancel_left {a b x : Nat} (h : x ^^^ a = x ^^^ b) : a = b := by
  rw [Nat.xor_comm x a, Nat.xor_comm x b] at h
  exact xor_cancel_right h

theorem feed_inj {a b : Nat} (ha : a < 4294967296) (hb : b < 4294967296) (x : UInt8) (h : feed a x = feed b x) : a = b := by
  have := x.toNat_lt
  exact xor_cancel_right (steps_inj 8 (xor_lt ha (by omega)) (xor_lt hb (by omega)) h)

theorem feed_inj2 {a : Nat} (ha : a < 4294967296) {x y : UInt8} (h : feed a x = feed a y) : x = y := by
  have := x.toNat_lt
  have := y.toNat_lt
  exact UInt8.toNat_inj.1 (xor_cancel_left (steps_inj 8 (xor_lt ha (by omega)) (xor_lt ha (by omega)) h))

theorem run_inj : ∀ (s : List UInt8) {a b : Nat}, a < 4294967296 → b < 4294967296 → run a s = run b s → a = b := by
  intro s
  induction s with
  | nil => intro a b _ _ h; exact h
  | cons x s ih => intro a b ha hb h; exact feed_inj ha hb x (ih (feed_lt ha x) (feed_lt hb x) h)

theorem sum_turned (p q : List UInt8) (x y : UInt8) (h : x ≠ y) : sum (p ++ x :: q) ≠ sum (p ++ y :: q) := by
  intro e
  have l1 := run_lt (p ++ x :: q) (c := 4294967295) (by omega)
  have l2 := run_lt (p ++ y :: q) (c := 4294967295) (by omega)
  have e2 : run 4294967295 (p ++ x :: q) = run 4294967295 (p ++ y :: q) := by unfold sum at e; omega
  rw [run_append, run_append] at e2
  have hp := run_lt p (c := 4294967295) (by omega)
  have e3 : run (feed (run 4294967295 p) x) q = run (feed (run 4294967295 p) y) q := e2
  exact h (feed_inj2 hp (run_inj q (feed_lt hp x) (feed_lt hp y) e3))

theorem tail4_length (n : Nat) : (tail4 n).length = 4 := rfl
theorem seal_length (s : List UInt8) : (seal_ s).length = s.length + 4 := by simp [seal_, tail4_length]

/-- what a text opens to: nothing (2: too short; 5: another sum), or the text -/
def openN (s : List UInt8) : List UInt8 × Nat :=
  if s.length < 4 then ([], 2) else if seal_ (s.take (s.length - 4)) = s then (s.take (s.length - 4), 0) else ([], 5)

theorem open_seal (s : List UInt8) : openN (seal_ s) = (s, 0) := by
  have e : (seal_ s).take ((seal_ s).length - 4) = s := by
    rw [seal_length, seal_, Nat.add_sub_cancel, List.take_left]
  unfold openN
  rw [e, if_neg (by rw [seal_length]; omega), if_pos rfl]

theorem tail4_inj {a b : Nat} (ha : a < 4294967296) (hb : b < 4294967296) (h : tail4 a = tail4 b) : a = b := by
  simp only [tail4, List.cons.injEq, and_true] at h
  obtain ⟨h0, h1, h2, h3⟩ := h
  have g0 := congrArg UInt8.toNat h0
  have g1 := congrArg UInt8.toNat h1
  have g2 := congrArg UInt8.toNat h2
  have g3 := congrArg UInt8.toNat h3
  simp only [UInt8.toNat_ofNat'] at g0 g1 g2 g3
  omega

/-- a sealed text, one byte of it another one, is refused -/
theorem open_turned (s : List UInt8) (k : Nat) (hk : k < (seal_ s).length) (y : UInt8) (hy : y ≠ (seal_ s)[k]) :
    openN ((seal_ s).take k ++ y :: (seal_ s).drop (k + 1)) = ([], 5) := by
  have hl := seal_length s
  have len : ((seal_ s).take k ++ y :: (seal_ s).drop (k + 1)).length = s.length + 4 := by
    simp [List.length_take, List.length_drop, hl]; omega
  unfold openN
  rw [len, if_neg (by omega), Nat.add_sub_cancel]
  rw [if_neg]
  intro e
  by_cases hks : k < s.length
  · -- in the text
    have hsk : (seal_ s)[k] = s[k] := by simp only [seal_]; rw [List.getElem_append_left hks]
    rw [hsk] at hy
    have e1 : (seal_ s).take k = s.take k := by simp only [seal_]; rw [List.take_append_of_le_length (by omega)]
    have e2 : (seal_ s).drop (k + 1) = s.drop (k + 1) ++ tail4 (sum s) := by simp only [seal_]; rw [List.drop_append_of_le_length (by omega)]
    have ht : ((seal_ s).take k ++ y :: (seal_ s).drop (k + 1)).take s.length = s.take k ++ y :: s.drop (k + 1) := by
      rw [e1, e2]
      have : s.take k ++ y :: (s.drop (k + 1) ++ tail4 (sum s)) = (s.take k ++ y :: s.drop (k + 1)) ++ tail4 (sum s) := by simp
      rw [this]
      have l : (s.take k ++ y :: s.drop (k + 1)).length = s.length := by simp; omega
      rw [← l, List.take_left]
    rw [ht, seal_, e1, e2] at e
    have e3 : (s.take k ++ y :: s.drop (k + 1)) ++ tail4 (sum (s.take k ++ y :: s.drop (k + 1))) = (s.take k ++ y :: s.drop (k + 1)) ++ tail4 (sum s) := by
      rw [e]; simp
    have e4 := tail4_inj (sum_lt _) (sum_lt _) (List.append_cancel_left e3)
    have hs : s = s.take k ++ s[k] :: s.drop (k + 1) := by simp
    refine sum_turned (s.take k) (s.drop (k + 1)) y s[k] hy ?_
    rw [← hs]; exact e4
  · -- in the sum
    have ht : ((seal_ s).take k ++ y :: (seal_ s).drop (k + 1)).take s.length = s := by
      rw [List.take_append_of_le_length (by simp; omega), List.take_take, Nat.min_eq_left (by omega)]
      simp [seal_]
    rw [ht] at e
    have : (seal_ s)[k]? = ((seal_ s).take k ++ y :: (seal_ s).drop (k + 1))[k]? := congrArg (fun l : List UInt8 => l[k]?) e
    rw [List.getElem?_eq_getElem hk, List.getElem?_append_right (by simp; omega)] at this
    rw [show k - ((seal_ s).take k).length = 0 from by simp; omega] at this
    simp only [List.getElem?_cons_zero, Option.some.injEq] at this
    exact hy this.symm

end Kn.Crc
/-! ### the sum by long division -/
namespace Kn.Crc

def powers : List Nat := [26, 23, 22, 16, 12, 11, 10, 8, 7, 5, 4, 2, 1, 0]

def msg (s : List UInt8) (j : Nat) : Bool := (s.getD (j / 8) 0).toNat.testBit (j % 8)

theorem msg_out {s : List UInt8} {j : Nat} (h : 8 * s.length ≤ j) : msg s j = false := by
  unfold msg
  rw [List.getD_eq_getElem?_getD, List.getElem?_eq_none (by omega)]
  simp

def hit (i j : Nat) : Bool := decide (j ≤ i + 32) && powers.contains (i + 32 - j)

/-- the bit at place j behind i rounds of the division -/
def B (s : List UInt8) : Nat → Nat → Bool
  | 0, j => (msg s j) ^^ (decide (j < 32))
  | i + 1, j => (B s i j) ^^ (B s i i && hit i j)

theorem hit_far {i j : Nat} (h : i + 32 < j) : hit i j = false := by rw [hit, decide_eq_false (by omega)]; rfl
theorem hit_self (i : Nat) : hit i i = false := by simp [hit, powers]

theorem B_far (s : List UInt8) : ∀ (i j : Nat), i + 32 ≤ j → B s i j = msg s j := by
  intro i
  induction i with
  | zero => intro j h; rw [B, decide_eq_false (by omega)]; simp
  | succ i ih => intro j h; rw [B, hit_far (by omega), ih j (by omega)]; simp

theorem poly_bit : ∀ j, j < 32 → poly.testBit j = powers.contains (31 - j) := by decide

def Inv (s : List UInt8) (i e c : Nat) : Prop := c < 4294967296 ∧ ∀ j, j < 32 → c.testBit j = ((B s i (i + j)) ^^ (decide (e ≤ i + j) && msg s (i + j)))

theorem inv_step {s : List UInt8} {i e c : Nat} (h : Inv s i e c) (hi : i < e) (he : e ≤ i + 8) : Inv s (i + 1) e (step c) := by
  obtain ⟨hc, hb⟩ := h
  refine ⟨step_lt hc, fun j hj => ?_⟩
  have h0 : decide (c % 2 = 1) = B s i i := by
    have := hb 0 (by omega)
    rw [Nat.testBit_zero] at this
    rw [this, decide_eq_false (show ¬ e ≤ i + 0 by omega)]
    simp
  have hs : (step c).testBit j = ((c / 2).testBit j ^^ (B s i i && poly.testBit j)) := by
    unfold step
    by_cases h1 : c % 2 = 1
    · rw [if_pos h1, Nat.testBit_xor, ← h0, decide_eq_true h1]; simp
    · rw [if_neg h1, ← h0, decide_eq_false h1]; simp
  have hd : (c / 2).testBit j = c.testBit (j + 1) := by rw [Nat.testBit_succ]
  have hh : hit i (i + 1 + j) = poly.testBit j := by
    rw [poly_bit j hj, hit, decide_eq_true (by omega), show i + 32 - (i + 1 + j) = 31 - j from by omega]; simp
  rw [hs, hd, B, hh]
  by_cases h31 : j = 31
  · subst h31
    rw [Nat.testBit_lt_two_pow (show c < 2 ^ (31 + 1) by omega), B_far s i (i + 1 + 31) (by omega), decide_eq_true (show e ≤ i + 1 + 31 by omega)]
    cases msg s (i + 1 + 31) <;> simp
  · rw [hb (j + 1) (by omega), show i + (j + 1) = i + 1 + j from by omega]
    cases B s i (i + 1 + j) <;> cases B s i i <;> cases poly.testBit j <;> cases decide (e ≤ i + 1 + j) && msg s (i + 1 + j) <;> rfl

theorem inv_steps {s : List UInt8} : ∀ (k : Nat) {i e c : Nat}, Inv s i e c → i + k = e → k ≤ 8 → Inv s e e (steps k c) := by
  intro k
  induction k with
  | zero => intro i e c h hk _; have : i = e := by omega
            subst this; exact h
  | succ k ih => intro i e c h hk h8; exact ih (inv_step h (by omega) (by omega)) (by omega) (by omega)

theorem inv_feed {s : List UInt8} {q c : Nat} (h : Inv s (8 * q) (8 * q) c) (hq : q < s.length) : Inv s (8 * (q + 1)) (8 * (q + 1)) (feed c s[q]) := by
  have hx := s[q].toNat_lt
  refine inv_steps 8 (i := 8 * q) (e := 8 * (q + 1)) ⟨xor_lt h.1 (by omega), fun j hj => ?_⟩ (by omega) (by omega)
  rw [Nat.testBit_xor, h.2 j hj, decide_eq_true (show 8 * q ≤ 8 * q + j by omega)]
  by_cases h8 : j < 8
  · rw [decide_eq_false (show ¬ 8 * (q + 1) ≤ 8 * q + j by omega)]
    have : msg s (8 * q + j) = s[q].toNat.testBit j := by
      unfold msg
      rw [show (8 * q + j) / 8 = q from by omega, show (8 * q + j) % 8 = j from by omega, List.getD_eq_getElem?_getD, List.getElem?_eq_getElem hq]
      rfl
    rw [this]
    cases B s (8 * q) (8 * q + j) <;> cases s[q].toNat.testBit j <;> rfl
  · rw [decide_eq_true (show 8 * (q + 1) ≤ 8 * q + j by omega)]
    rw [Nat.testBit_lt_two_pow (x := s[q].toNat) (i := j) (by
      have : 2 ^ 8 ≤ 2 ^ j := Nat.pow_le_pow_right (by omega) (by omega)
      omega)]
    simp

theorem run_take_succ (c : Nat) (s : List UInt8) (q : Nat) (h : q < s.length) : run c (s.take (q + 1)) = feed (run c (s.take q)) s[q] := by
  rw [List.take_succ_eq_append_getElem h, run_append]; rfl

theorem inv_run (s : List UInt8) : ∀ q, q ≤ s.length → Inv s (8 * q) (8 * q) (run 4294967295 (s.take q)) := by
  intro q
  induction q with
  | zero =>
    intro _
    refine ⟨by simp [run], fun j hj => ?_⟩
    have e : (run 4294967295 (s.take 0)).testBit j = true := by
      simp only [List.take_zero, run, List.foldl_nil]
      rw [show 4294967295 = 2 ^ 32 - 1 from rfl, Nat.testBit_two_pow_sub_one]
      simpa using hj
    rw [e]
    simp [B, hj]
  | succ q ih =>
    intro h
    rw [run_take_succ _ _ _ (by omega)]
    exact inv_feed (ih (by omega)) (by omega)

theorem sum_bit (s : List UInt8) (j : Nat) (hj : j < 32) : (sum s).testBit j = !B s (8 * s.length) (8 * s.length + j) := by
  have h := inv_run s s.length (Nat.le_refl _)
  rw [List.take_length] at h
  have hb := h.2 j hj
  rw [msg_out (by omega)] at hb
  simp only [Bool.and_false, Bool.xor_false] at hb
  have : sum s = 2 ^ 32 - (run 4294967295 s + 1) := by unfold sum; have := h.1; omega
  rw [this, Nat.testBit_two_pow_sub_succ (by have := h.1; omega), hb]
  simp [hj]

/-- the sum's upper bits, one more -/
theorem sum_up (s : List UInt8) (i : Nat) (hi : i < 32) : sum s / 2 ^ (31 - i) = 2 * (sum s / 2 ^ (32 - i)) + (if B s (8 * s.length) (8 * s.length + (31 - i)) = true then 0 else 1) := by
  have hb := sum_bit s (31 - i) (by omega)
  rw [Nat.testBit_eq_decide_div_mod_eq] at hb
  have e : 2 ^ (32 - i) = 2 ^ (31 - i) * 2 := by rw [← Nat.pow_succ]; congr 1; omega
  rw [e, ← Nat.div_div_eq_div_mul]
  cases h : B s (8 * s.length) (8 * s.length + (31 - i)) <;> rw [h] at hb <;> simp at hb ⊢ <;> omega

/-! ### the rounds within one -/

/-- behind k powers of round i -/
def Bk (s : List UInt8) (i k j : Nat) : Bool := (B s i j) ^^ (B s i i && (decide (j ≤ i + 32) && (powers.take k).contains (i + 32 - j)))

theorem Bk_zero (s : List UInt8) (i j : Nat) : Bk s i 0 j = B s i j := by simp [Bk]
theorem Bk_all (s : List UInt8) (i j : Nat) : Bk s i 14 j = B s (i + 1) j := by
  have : powers.take 14 = powers := rfl
  simp [Bk, B, hit, this]

theorem powers_get : ∀ k, (hk : k < 14) → powers[k]'hk ≤ 26 ∧ (powers.take (k + 1)) = powers.take k ++ [powers[k]'hk] ∧ (powers.take k).contains (powers[k]'hk) = false := by
  decide

theorem Bk_succ_hit (s : List UInt8) (i k : Nat) (hk : k < 14) (h : B s i i = true) : Bk s i (k + 1) (i + 32 - powers[k]'hk) = !Bk s i k (i + 32 - powers[k]'hk) := by
  obtain ⟨h1, h2, h3⟩ := powers_get k hk
  have e : i + 32 - (i + 32 - powers[k]'hk) = powers[k]'hk := by omega
  unfold Bk
  rw [e, h2, h3, h, decide_eq_true (show i + 32 - powers[k]'hk ≤ i + 32 by omega)]
  simp

theorem Bk_succ_miss (s : List UInt8) (i k j : Nat) (hk : k < 14) (hj : j ≠ i + 32 - powers[k]'hk) : Bk s i (k + 1) j = Bk s i k j := by
  obtain ⟨h1, h2, h3⟩ := powers_get k hk
  unfold Bk
  rw [h2]
  by_cases hle : j ≤ i + 32
  · have : i + 32 - j ≠ powers[k]'hk := by omega
    simp [this]
  · simp [hle]

theorem B_no (s : List UInt8) (i j : Nat) (h : B s i i = false) : B s (i + 1) j = B s i j := by simp [B, h]

end Kn.Crc
