/- Plain facts on the lines of layer 7 (pkt). No program in sight. -/
namespace Kn.Pkt

/-- a line: its kind (any int), its load -/
structure Ln where
  kind : Int
  load : List UInt8
  deriving DecidableEq

/-- a figure -/
def fig (n : Nat) : UInt8 := if n < 10 then UInt8.ofNat (48 + n) else UInt8.ofNat (87 + n)

def figures (n : Nat) : List UInt8 := [fig (n / 4096 % 16), fig (n / 256 % 16), fig (n / 16 % 16), fig (n % 16)]

/-- a figure's number -/
def unfig (c : UInt8) : Option Nat := if 48 ≤ c.toNat ∧ c.toNat ≤ 57 then some (c.toNat - 48) else if 97 ≤ c.toNat ∧ c.toNat ≤ 102 then some (c.toNat - 87) else none

def number : List UInt8 → Option Nat
  | a :: b :: c :: d :: _ =>
    match unfig a, unfig b, unfig c, unfig d with
    | some a, some b, some c, some d => some (4096 * a + 256 * b + 16 * c + d)
    | _, _, _, _ => none
  | _ => none

theorem unfig_fig (n : Nat) (h : n < 16) : unfig (fig n) = some n := by
  have : ∀ n, n < 16 → unfig (fig n) = some n := by decide
  exact this n h

theorem fig_unfig {c : UInt8} {n : Nat} (h : unfig c = some n) : n < 16 ∧ fig n = c := by
  have hc := c.toNat_lt
  unfold unfig at h
  split at h
  · injection h with h
    subst h
    refine ⟨by omega, ?_⟩
    rw [fig, if_pos (by omega), show 48 + (c.toNat - 48) = c.toNat from by omega]
    simp
  · split at h
    · injection h with h
      subst h
      refine ⟨by omega, ?_⟩
      rw [fig, if_neg (by omega), show 87 + (c.toNat - 87) = c.toNat from by omega]
      simp
    · cases h

theorem figures_length (n : Nat) : (figures n).length = 4 := rfl

theorem number_figures (n : Nat) (h : n < 65536) (r : List UInt8) : number (figures n ++ r) = some n := by
  simp only [figures, List.cons_append, number]
  rw [unfig_fig _ (by omega), unfig_fig _ (by omega), unfig_fig _ (by omega), unfig_fig _ (by omega)]
  simp only [Option.some.injEq]
  omega

theorem figures_number {s : List UInt8} {n : Nat} (h : number s = some n) : n < 65536 ∧ 4 ≤ s.length ∧ s.take 4 = figures n ∧ s = figures n ++ s.drop 4 := by
  match s, h with
  | a :: b :: c :: d :: r, h =>
    simp only [number] at h
    split at h
    · rename_i a' b' c' d' ha hb hc hd
      injection h with h
      obtain ⟨la, ea⟩ := fig_unfig ha
      obtain ⟨lb, eb⟩ := fig_unfig hb
      obtain ⟨lc, ec⟩ := fig_unfig hc
      obtain ⟨ld, ed⟩ := fig_unfig hd
      subst h
      have e : figures (4096 * a' + 256 * b' + 16 * c' + d') = [a, b, c, d] := by
        unfold figures
        rw [show (4096 * a' + 256 * b' + 16 * c' + d') / 4096 % 16 = a' from by omega, show (4096 * a' + 256 * b' + 16 * c' + d') / 256 % 16 = b' from by omega,
          show (4096 * a' + 256 * b' + 16 * c' + d') / 16 % 16 = c' from by omega, show (4096 * a' + 256 * b' + 16 * c' + d') % 16 = d' from by omega, ea, eb, ec, ed]
      refine ⟨by omega, by simp, ?_, ?_⟩ <;> rw [e] <;> simp
    · cases h

/-- may it be a line? -/
def fine (p : Ln) : Bool := (p.kind == 0 && decide (p.load.length ≤ 1000)) || ((p.kind == 1 || p.kind == 2) && p.load.isEmpty)

/-- a line's bytes, one that may be -/
def bytes (p : Ln) : List UInt8 := if p.kind = 0 then figures (4 + p.load.length) ++ p.load else if p.kind = 1 then figures 0 else figures 1

def puts (l : List Ln) : Option (List UInt8) := if l.all fine then some (l.flatMap bytes) else none

/-- the line that a text begins with -/
def get (s : List UInt8) : Option (Ln × List UInt8) :=
  match number s with
  | none => none
  | some n => if n = 0 then some (⟨1, []⟩, s.drop 4) else if n = 1 then some (⟨2, []⟩, s.drop 4)
    else if n < 4 ∨ 1004 < n ∨ s.length < n then none else some (⟨0, (s.drop 4).take (n - 4)⟩, s.drop n)

theorem get_lt {s : List UInt8} {p : Ln} {r : List UInt8} (h : get s = some (p, r)) : r.length < s.length := by
  unfold get at h
  split at h
  · cases h
  · rename_i n hn
    obtain ⟨_, h4, _, _⟩ := figures_number hn
    split at h
    · injection h with h; injection h with h1 h2; subst h2; simp; omega
    · split at h
      · injection h with h; injection h with h1 h2; subst h2; simp; omega
      · split at h
        · cases h
        · injection h with h; injection h with h1 h2; subst h2; simp; omega

theorem get_iff (s : List UInt8) (p : Ln) (r : List UInt8) : get s = some (p, r) ↔ fine p = true ∧ s = bytes p ++ r := by
  unfold get
  constructor
  · intro h
    split at h
    · cases h
    · rename_i n hn
      obtain ⟨h6, h4, _, hs⟩ := figures_number hn
      split at h
      · rename_i h0
        injection h with h; injection h with h1 h2; subst h1 h2 h0
        exact ⟨rfl, by rw [bytes, if_neg (by simp), if_pos rfl]; exact hs⟩
      · split at h
        · rename_i h0 h1'
          injection h with h; injection h with h1 h2; subst h1 h2 h1'
          exact ⟨rfl, by rw [bytes, if_neg (by simp), if_neg (by simp)]; exact hs⟩
        · split at h
          · cases h
          · rename_i h0 h1' hb
            injection h with h; injection h with h1 h2; subst h1 h2
            have hl : ((s.drop 4).take (n - 4)).length = n - 4 := by simp; omega
            refine ⟨?_, ?_⟩
            · simp [fine]; omega
            · rw [bytes, if_pos rfl]
              simp only
              rw [hl, show 4 + (n - 4) = n from by omega, List.append_assoc]
              have e : (s.drop 4).take (n - 4) ++ s.drop n = s.drop 4 := by
                rw [show s.drop n = (s.drop 4).drop (n - 4) from by rw [List.drop_drop]; congr 1; omega]
                exact List.take_append_drop _ _
              rw [e]; exact hs
  · rintro ⟨hf, rfl⟩
    obtain ⟨k, l⟩ := p
    simp only [fine, Bool.or_eq_true, Bool.and_eq_true, beq_iff_eq, decide_eq_true_eq, List.isEmpty_iff] at hf
    rcases hf with ⟨rfl, hl⟩ | ⟨rfl | rfl, rfl⟩
    · have e : bytes ⟨0, l⟩ = figures (4 + l.length) ++ l := by simp [bytes]
      rw [e, List.append_assoc, number_figures _ (by omega)]
      simp only
      rw [if_neg (by omega), if_neg (by omega), if_neg (by simp [figures_length]; omega)]
      have d4 : (figures (4 + l.length) ++ (l ++ r)).drop 4 = l ++ r := by rw [List.drop_left' (figures_length _)]
      have dn : (figures (4 + l.length) ++ (l ++ r)).drop (4 + l.length) = r := by rw [← List.drop_drop, d4, List.drop_left]
      rw [d4, dn]
      simp
    · have e : bytes ⟨1, []⟩ = figures 0 := by simp [bytes]
      rw [e, number_figures _ (by omega)]
      simp only [if_true]
      rw [List.drop_left' (figures_length _)]
    · have e : bytes ⟨2, []⟩ = figures 1 := by simp [bytes]
      rw [e, number_figures _ (by omega)]
      simp only [if_true]
      rw [if_neg (by omega), List.drop_left' (figures_length _)]

theorem bytes_pos (p : Ln) : 0 < (bytes p).length := by
  unfold bytes
  split
  · simp [figures_length]; omega
  · split <;> simp [figures_length]

theorem bytes_le {p : Ln} (h : fine p = true) : (bytes p).length ≤ 1004 := by
  simp only [fine, Bool.or_eq_true, Bool.and_eq_true, beq_iff_eq, decide_eq_true_eq, List.isEmpty_iff] at h
  unfold bytes
  rcases h with ⟨h1, h2⟩ | ⟨h1, h2⟩
  · rw [if_pos h1]; simp [figures_length]; omega
  · rw [if_neg (by omega)]; split <;> simp [figures_length]

/-- the lines that a text is -/
def allF : Nat → List UInt8 → Option (List Ln)
  | 0, s => if s = [] then some [] else none
  | k + 1, s => if s = [] then some [] else
    match get s with
    | none => none
    | some (p, r) => (allF k r).map (p :: ·)

def all (s : List UInt8) : Option (List Ln) := allF s.length s

theorem allF_iff : ∀ (k : Nat) (s : List UInt8), s.length ≤ k → ∀ l, allF k s = some l ↔ puts l = some s := by
  intro k
  induction k with
  | zero =>
    intro s hs l
    have : s = [] := List.eq_nil_of_length_eq_zero (by omega)
    subst this
    simp only [allF, if_pos]
    constructor
    · intro h; injection h with h; subst h; rfl
    · intro h
      cases l with
      | nil => rfl
      | cons p l =>
        unfold puts at h
        split at h
        · injection h with h
          have := bytes_pos p
          simp [List.flatMap_cons] at h
          rw [h.1] at this; simp at this
        · cases h
  | succ k ih =>
    intro s hs l
    rw [allF]
    by_cases h0 : s = []
    · subst h0
      simp only [if_pos]
      constructor
      · intro h; injection h with h; subst h; rfl
      · intro h
        cases l with
        | nil => rfl
        | cons p l =>
          unfold puts at h
          split at h
          · injection h with h
            have := bytes_pos p
            simp [List.flatMap_cons] at h
            rw [h.1] at this; simp at this
          · cases h
    · rw [if_neg h0]
      constructor
      · intro h
        split at h
        · cases h
        · rename_i p r hg
          have hlt := get_lt hg
          cases hk : allF k r with
          | none => rw [hk] at h; cases h
          | some l' =>
            rw [hk] at h
            simp only [Option.map_some, Option.some.injEq] at h
            subst h
            have h2 := (ih r (by omega) l').1 hk
            obtain ⟨hf, rfl⟩ := (get_iff _ _ _).1 hg
            unfold puts at h2 ⊢
            split at h2
            · rename_i ha
              injection h2 with h2
              rw [if_pos (by simp only [List.all_cons, hf, ha, Bool.and_self]), List.flatMap_cons, h2]
            · cases h2
      · intro h
        cases l with
        | nil => simp [puts] at h; exact absurd h h0
        | cons p l =>
          unfold puts at h
          split at h
          · rename_i ha
            injection h with h
            simp only [List.all_cons, Bool.and_eq_true] at ha
            rw [List.flatMap_cons] at h
            have hg : get s = some (p, l.flatMap bytes) := (get_iff _ _ _).2 ⟨ha.1, h.symm⟩
            have hlt := get_lt hg
            have := (ih (l.flatMap bytes) (by omega) l).2 (by simp [puts, ha.2])
            rw [hg]
            simp only
            rw [this]
            rfl
          · cases h

theorem all_iff (s : List UInt8) (l : List Ln) : all s = some l ↔ puts l = some s := allF_iff _ _ (Nat.le_refl _) _

end Kn.Pkt
