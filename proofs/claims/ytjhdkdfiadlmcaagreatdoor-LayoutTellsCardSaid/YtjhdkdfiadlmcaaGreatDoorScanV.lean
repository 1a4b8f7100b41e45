/- Plain: what a text of a number is worth; where no text goes on. Conditions: none. -/
import Derived.Test.YtjhdkdfiadlmcaaGreatDoorScanW
namespace Go.Cal
theorem outA_le : ∀ (st : Nat) (l : List UInt8), (outA st l).2 ≤ l.length
  | st, [] => Nat.le_refl _
  | st, c :: t => by
    by_cases h : nxt st c = 99
    · rw [outA_dead h]; simp
    · rw [outA_go rfl h]
      have := outA_le (nxt st c) t
      simp; omega
theorem outA_ok : ∀ (st : Nat) (l : List UInt8), (outA st l).1 = true → (outA st l).2 = l.length
  | st, [], _ => rfl
  | st, c :: t, h0 => by
    by_cases h : nxt st c = 99
    · rw [outA_dead h] at h0; cases h0
    · rw [outA_go rfl h] at h0 ⊢
      have := outA_ok (nxt st c) t h0
      simp [this]
def liveL : List Nat := [0, 1, 2, 3, 4, 5, 6, 7, 8, 10, 11, 12, 20, 21, 22, 30, 31, 32]
theorem nxt_live {st : Nat} (h : st ∈ liveL) (c : UInt8) (h9 : nxt st c ≠ 99) : nxt st c ∈ liveL := by
  revert h9
  unfold nxt
  split
  · split
    · split
      · intro _; decide
      · intro e; exact absurd rfl e
    · split
      · intro _; decide
      · split
        · intro _; decide
        · split
          · intro _; decide
          · intro _; decide
  · split
    · split
      · intro _; decide
      · split
        · intro _; decide
        · intro _; decide
    · split
      · intro _; decide
      · split
        · intro _; decide
        · split
          · intro _; decide
          · split
            · rename_i h6
              intro _
              rcases h6 with ⟨rfl, _⟩ | ⟨rfl, _⟩ | ⟨rfl, _⟩ | ⟨rfl, _⟩ | ⟨rfl, _⟩ | ⟨rfl, _⟩ <;> decide
            · intro e; exact absurd rfl e
/-- The endings that the law tries. -/
def endL : List (List UInt8) := [[], [48], [110, 102], [102], [105, 110, 102], [97, 110], [110], [97, 82], [82]]
theorem end_some : ∀ st ∈ liveL, ∃ e ∈ endL, (outA st e).1 = true := by decide
theorem place_goes : ∀ (st : Nat) (l : List UInt8), st ∈ liveL → (outA st l).1 = false → ∃ e ∈ endL, (outA st (l.take (outA st l).2 ++ e)).1 = true
  | st, [], hs, _ => by simpa using end_some st hs
  | st, c :: t, hs, h0 => by
    by_cases h : nxt st c = 99
    · rw [outA_dead h]
      simpa using end_some st hs
    · rw [outA_go rfl h] at h0 ⊢
      obtain ⟨e, he, h1⟩ := place_goes (nxt st c) t (nxt_live hs c h) h0
      refine ⟨e, he, ?_⟩
      rw [List.take_succ_cons, List.cons_append, outA_go rfl h]
      exact h1
theorem place_dead : ∀ (st : Nat) (l e : List UInt8), (outA st l).1 = false → (outA st l).2 < l.length → outA st (l.take ((outA st l).2 + 1) ++ e) = (false, (outA st l).2)
  | st, [], e, _, h => by simp at h
  | st, c :: t, e, h0, hl => by
    by_cases h : nxt st c = 99
    · rw [outA_dead h]
      simp only [Nat.zero_add, List.take_succ_cons, List.take_zero, List.cons_append]
      rw [outA_dead h]
    · rw [outA_go rfl h] at h0 hl ⊢
      have := place_dead (nxt st c) t e h0 (by simpa using hl)
      simp only at this ⊢
      rw [List.take_succ_cons, List.cons_append, outA_go rfl h, this]
/-- The digits of a number without a sign, as they stand. -/
def numD (t : List UInt8) : List UInt8 :=
  match t.dropWhile isDig with
  | 46 :: r => t.takeWhile isDig ++ r.takeWhile isDig
  | _ => t.takeWhile isDig
/-- How many of them are behind the point. -/
def numB (t : List UInt8) : Nat :=
  match t.dropWhile isDig with
  | 46 :: r => (r.takeWhile isDig).length
  | _ => 0
/-- What is behind the digits. -/
def numR (t : List UInt8) : List UInt8 :=
  match t.dropWhile isDig with
  | 46 :: r => r.dropWhile isDig
  | r => r
/-- The exponent: what is behind the e, C at most. -/
def expM (C : Nat) (t : List UInt8) : Nat := min (numV (t.takeWhile isDig)) C
def expV (C : Nat) (t : List UInt8) : Int :=
  match t with
  | [] => 0
  | _ :: [] => 0
  | _ :: c :: r => if c = 45 then -(expM C r : Int) else if c = 43 then (expM C r : Int) else (expM C (c :: r) : Int)
theorem numD_digs (t : List UInt8) : ∀ c ∈ numD t, isDig c = true := by
  unfold numD
  split
  · intro c hc
    rcases List.mem_append.1 hc with hc | hc
    · exact take_digs _ c hc
    · exact take_digs _ c hc
  · exact take_digs _
/-- Without noughts at the ends. -/
def trL (l : List UInt8) : List UInt8 := l.dropWhile (· == 48)
def trR (l : List UInt8) : List UInt8 := (l.reverse.dropWhile (· == 48)).reverse
theorem trL_suffix (l : List UInt8) : trL l <:+ l := List.dropWhile_suffix _
theorem trR_prefix (l : List UInt8) : trR l <+: l := by
  unfold trR
  have := List.dropWhile_suffix (l := l.reverse) (· == 48)
  rw [← List.reverse_prefix] at this
  simpa using this
theorem trL_head (l : List UInt8) : (trL l).head? ≠ some 48 := by
  unfold trL
  intro h
  have := List.head?_dropWhile_not (· == (48 : UInt8)) l
  rw [h] at this
  simp at this
theorem trR_last (l : List UInt8) : (trR l).getLast? ≠ some 48 := by
  unfold trR
  rw [List.getLast?_reverse]
  exact trL_head l.reverse
/-- What a text is. -/
structure Item where
  kind : Nat
  neg : Bool
  d : Nat
  k : Int
  big : Int
  cut : Bool
def noItem : Item := ⟨0, false, 0, 0, 0, false⟩
/-- A number of digits, times a power. -/
def itemV (neg : Bool) (digits : List UInt8) (k : Int) : Item :=
  let a := trL digits
  let b := trR a
  let k1 := k + ((a.length : Int) - (b.length : Int))
  if b = [] then ⟨1, neg, 0, 0, 0, false⟩
  else if 1000 ≤ (b.length : Int) + k1 - 1 then ⟨1, neg, 0, 0, 1, false⟩
  else if (b.length : Int) + k1 - 1 < -1000 then ⟨1, neg, 0, 0, -1, false⟩
  else if 1990 < b.length then ⟨1, neg, numV (b.take 1990 ++ [49]), k1 + ((b.length : Int) - 1991), 0, true⟩
  else ⟨1, neg, numV b, k1, 0, false⟩
/-- What stands behind the sign is. -/
def bodyV (C : Nat) (neg : Bool) (t : List UInt8) : Item :=
  if wordK t ≠ 0 then ⟨wordK t, neg, 0, 0, 0, false⟩ else itemV neg (numD t) (expV C (numR t) - (numB t : Int))
def textV (C : Nat) (l : List UInt8) : Item :=
  match l with
  | 45 :: t => bodyV C true t
  | t => bodyV C false t
end Go.Cal
