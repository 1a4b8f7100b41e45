/- Plain numbers: decimal numerals by chunks, and what rows of digits are worth. Conditions: none. -/
/- Plain: what a text of a number is; the document's states. Conditions: none. -/
/- Plain: words among texts; the whole of a text, by states and by parts. Conditions: none. -/
/- Plain: what a text of a number is worth; where no text goes on. Conditions: none. -/
/- Plain: texts of numbers put together, and what they are worth. Conditions: none. -/
/- Plain: how far a number's digits go. Conditions: none. -/
/- Plain: bounds of what is told; texts that are one number. Conditions: none. -/
/- Plain: how digits are written, and what digits a text has (chapter 12). Conditions: none. -/
/- Plain: how digits are written, and what digits a text has, second part. Conditions: none. -/
/- Plain: what is written is read as it is; unlike digits have unlike texts; what Scan makes of them. Conditions: none. -/
import Derived.Test.YtobokaafmcfeaaaGreatDoorSk00
import Derived.Lib.ItoaNum
import Derived.Lib.Repeat
import Derived.Lib.Join
import Derived.Lib.IndexMore
import Derived.Lib.AtoiAllCases
namespace Go.Cal
open Go.Lib
theorem dec_small {u : Nat} (h : u < 10) : decDigits u = [UInt8.ofNat (48 + u)] := by rw [decDigits, dif_pos h]
theorem dec_big {u : Nat} (h : ¬ u < 10) : decDigits u = decDigits (u / 10) ++ [UInt8.ofNat (48 + u % 10)] := by rw [decDigits, dif_neg h]
def padd : Nat → Nat → List UInt8
  | 0, _ => []
  | k + 1, r => padd k (r / 10) ++ [UInt8.ofNat (48 + r % 10)]
theorem dec_padd : ∀ (k q r : Nat), 1 ≤ q → r < 10 ^ k → decDigits (q * 10 ^ k + r) = decDigits q ++ padd k r
  | 0, q, r, _, hr => by
    have : r = 0 := by simpa using hr
    subst this
    simp [padd]
  | k + 1, q, r, hq, hr => by
    have hp : 1 ≤ 10 ^ k := Nat.one_le_pow _ _ (by decide)
    rw [Nat.pow_succ] at hr
    have hq1 : 1 * 10 ^ k ≤ q * 10 ^ k := Nat.mul_le_mul_right _ hq
    have e1 : q * 10 ^ (k + 1) = q * 10 ^ k * 10 := by rw [Nat.pow_succ, Nat.mul_assoc]
    rw [e1, dec_big (by omega), show (q * 10 ^ k * 10 + r) / 10 = q * 10 ^ k + r / 10 by omega, show (q * 10 ^ k * 10 + r) % 10 = r % 10 by omega,
      dec_padd k q (r / 10) hq (by omega), padd, List.append_assoc]
theorem padd_zero : ∀ k, padd k 0 = List.replicate k 48
  | 0 => rfl
  | k + 1 => by
    rw [padd, show 0 / 10 = 0 from rfl, padd_zero k, List.replicate_succ']
    rfl
theorem padd_dec : ∀ (k r : Nat), 1 ≤ k → r < 10 ^ k → padd k r = List.replicate (k - (decDigits r).length) 48 ++ decDigits r ∧ (decDigits r).length ≤ k
  | 0, r, h, _ => by omega
  | k + 1, r, _, hr => by
    by_cases h : r < 10
    · rw [dec_small h, padd, show r / 10 = 0 by omega, padd_zero, Nat.mod_eq_of_lt h]
      simp
    · have hk : 1 ≤ k := by
        rcases Nat.eq_zero_or_pos k with h0 | h0
        · subst h0; simp at hr; omega
        · exact h0
      rw [Nat.pow_succ] at hr
      obtain ⟨h1, h2⟩ := padd_dec k (r / 10) hk (by omega)
      rw [dec_big h, padd, h1]
      simp only [List.length_append, List.length_singleton]
      refine ⟨?_, by omega⟩
      rw [List.append_assoc, show k + 1 - ((decDigits (r / 10)).length + 1) = k - (decDigits (r / 10)).length by omega]
/-- The numeral, by a chunk of k digits. -/
theorem dec_chunk {q r k : Nat} (hq : 1 ≤ q) (hk : 1 ≤ k) (hr : r < 10 ^ k) : decDigits (q * 10 ^ k + r) = decDigits q ++ (List.replicate (k - (decDigits r).length) 48 ++ decDigits r) := by
  rw [dec_padd k q r hq hr, (padd_dec k r hk hr).1]
/-- What a row of digits is worth. -/
def numV (l : List UInt8) : Nat := l.foldl (fun n c => n * 10 + (c.toNat - 48)) 0
theorem numV_snoc (l : List UInt8) (c : UInt8) : numV (l ++ [c]) = numV l * 10 + (c.toNat - 48) := by simp [numV, List.foldl_append]
theorem foldl_numV (l : List UInt8) (n : Nat) : l.foldl (fun n (c : UInt8) => n * 10 + (c.toNat - 48)) n = n * 10 ^ l.length + numV l := by
  induction l generalizing n with
  | nil => simp [numV]
  | cons c l ih =>
    have e : numV (c :: l) = (c.toNat - 48) * 10 ^ l.length + numV l := by
      show List.foldl _ (0 * 10 + (c.toNat - 48)) l = _
      rw [ih, Nat.zero_mul, Nat.zero_add]
    rw [List.foldl_cons, ih, e, List.length_cons, Nat.pow_succ, Nat.add_mul, Nat.mul_assoc, Nat.mul_comm 10, Nat.add_assoc]
theorem numV_append (l m : List UInt8) : numV (l ++ m) = numV l * 10 ^ m.length + numV m := by
  conv => lhs; rw [numV, List.foldl_append]
  exact foldl_numV m _
theorem digit_toNat {d : Nat} (h : d < 10) : (UInt8.ofNat (48 + d)).toNat = 48 + d := by
  rw [UInt8.toNat_ofNat']; omega
theorem numV_dec (u : Nat) : numV (decDigits u) = u := by
  induction u using Nat.strongRecOn with
  | _ u ih =>
    by_cases h : u < 10
    · rw [dec_small h]
      show 0 * 10 + ((UInt8.ofNat (48 + u)).toNat - 48) = u
      rw [digit_toNat h]; omega
    · rw [dec_big h, numV_snoc, ih (u / 10) (by omega), digit_toNat (Nat.mod_lt _ (by omega))]
      omega
/-- Is a byte a digit? -/
def isDig (c : UInt8) : Bool := 48 ≤ c.toNat && c.toNat ≤ 57
theorem isDig_ofNat {d : Nat} (h : d < 10) : isDig (UInt8.ofNat (48 + d)) = true := by unfold isDig; rw [digit_toNat h]; simp; omega
theorem dec_digs (u : Nat) : ∀ c ∈ decDigits u, isDig c = true := by
  induction u using Nat.strongRecOn with
  | _ u ih =>
    by_cases h : u < 10
    · rw [dec_small h]; intro c hc; rw [List.mem_singleton] at hc; subst hc; exact isDig_ofNat h
    · rw [dec_big h]
      intro c hc
      rcases List.mem_append.1 hc with hc | hc
      · exact ih (u / 10) (by omega) c hc
      · rw [List.mem_singleton] at hc; subst hc; exact isDig_ofNat (Nat.mod_lt _ (by omega))
theorem dec_ne (u : Nat) : decDigits u ≠ [] := by
  by_cases h : u < 10
  · rw [dec_small h]; simp
  · rw [dec_big h]; simp
theorem dec_head {u : Nat} (h : 0 < u) : (decDigits u).head? ≠ some 48 := by
  induction u using Nat.strongRecOn with
  | _ u ih =>
    by_cases h1 : u < 10
    · rw [dec_small h1]
      intro e
      have e2 : UInt8.ofNat (48 + u) = 48 := by simpa using e
      have := digit_toNat h1
      rw [e2] at this
      simp at this; omega
    · rw [dec_big h1]
      have := ih (u / 10) (by omega) (by omega)
      have h2 := dec_ne (u / 10)
      match he : decDigits (u / 10) with
      | [] => exact absurd he h2
      | x :: l => rw [he] at this; simpa using this
end Go.Cal
namespace Go.Cal
/-- Where a row of digits ends. -/
theorem span_split (t : List UInt8) : t.takeWhile isDig ++ t.dropWhile isDig = t := List.takeWhile_append_dropWhile
theorem take_digs (t : List UInt8) : ∀ c ∈ t.takeWhile isDig, isDig c = true := fun c hc => by
  induction t with
  | nil => simp at hc
  | cons x t ih =>
    by_cases h : isDig x = true
    · rw [List.takeWhile_cons_of_pos h] at hc
      rcases List.mem_cons.1 hc with rfl | hc
      · exact h
      · exact ih hc
    · rw [List.takeWhile_cons_of_neg h] at hc
      simp at hc
theorem drop_head (t : List UInt8) {c : UInt8} {r : List UInt8} (h : t.dropWhile isDig = c :: r) : isDig c = false := by
  induction t with
  | nil => simp at h
  | cons x t ih =>
    by_cases hx : isDig x = true
    · rw [List.dropWhile_cons_of_pos hx] at h; exact ih h
    · rw [List.dropWhile_cons_of_neg hx] at h
      injection h with h1 h2
      subst h1
      simpa using hx
/-- Behind an e, and its sign: the digits; how far it goes on. -/
def expN (t : List UInt8) : Bool × Nat := (!(t.takeWhile isDig).isEmpty && (t.dropWhile isDig).isEmpty, (t.takeWhile isDig).length)
/-- Behind an e. -/
def expE (t : List UInt8) : Bool × Nat :=
  match t with
  | [] => (false, 0)
  | c :: r => if c = 43 ∨ c = 45 then ((expN r).1, (expN r).2 + 1) else expN t
theorem expE_cons (c : UInt8) (r : List UInt8) : expE (c :: r) = if c = 43 ∨ c = 45 then ((expN r).1, (expN r).2 + 1) else expN (c :: r) := rfl
/-- Behind the digits. -/
def expS (t : List UInt8) : Bool × Nat :=
  match t with
  | [] => (true, 0)
  | c :: r => if c = 101 ∨ c = 69 then ((expE r).1, (expE r).2 + 1) else (false, 0)
theorem expS_cons (c : UInt8) (r : List UInt8) : expS (c :: r) = if c = 101 ∨ c = 69 then ((expE r).1, (expE r).2 + 1) else (false, 0) := rfl
/-- A number without a sign: is it one; how far it goes on. -/
def numS (t : List UInt8) : Bool × Nat :=
  match t.dropWhile isDig with
  | 46 :: r =>
    if (t.takeWhile isDig).isEmpty && (r.takeWhile isDig).isEmpty then (false, 1)
    else ((expS (r.dropWhile isDig)).1, (t.takeWhile isDig).length + 1 + (r.takeWhile isDig).length + (expS (r.dropWhile isDig)).2)
  | r => if (t.takeWhile isDig).isEmpty then (false, 0) else ((expS r).1, (t.takeWhile isDig).length + (expS r).2)
end Go.Cal
namespace Go.Cal
/-- How far two rows go together. -/
def lcp : List UInt8 → List UInt8 → Nat
  | x :: xs, y :: ys => if x = y then lcp xs ys + 1 else 0
  | _, _ => 0
theorem lcp_le_left : ∀ (t w : List UInt8), lcp t w ≤ t.length
  | [], _ => by simp [lcp]
  | _ :: _, [] => by simp [lcp]
  | x :: xs, y :: ys => by
    unfold lcp
    split
    · have := lcp_le_left xs ys
      simp; omega
    · simp
theorem lcp_le_right : ∀ (t w : List UInt8), lcp t w ≤ w.length
  | [], _ => by simp [lcp]
  | _ :: _, [] => by simp [lcp]
  | x :: xs, y :: ys => by
    unfold lcp
    split
    · have := lcp_le_right xs ys
      simp; omega
    · simp
theorem lcp_nil (t : List UInt8) : lcp t [] = 0 := by cases t <;> rfl
theorem lcp_same : ∀ (t w : List UInt8) (n : Nat), n < lcp t w → t.getD n 0 = w.getD n 0
  | [], _, n, h => by simp [lcp] at h
  | _ :: _, [], n, h => by simp [lcp] at h
  | x :: xs, y :: ys, n, h => by
    unfold lcp at h
    split at h
    · rename_i e
      subst e
      match n with
      | 0 => rfl
      | n + 1 =>
        have := lcp_same xs ys n (by omega)
        simpa using this
    · omega
theorem lcp_stop : ∀ (t w : List UInt8), lcp t w < w.length → lcp t w < t.length → t.getD (lcp t w) 0 ≠ w.getD (lcp t w) 0
  | [], _, _, h => by simp at h
  | _ :: _, [], h, _ => by simp at h
  | x :: xs, y :: ys, h1, h2 => by
    unfold lcp at h1 h2 ⊢
    split
    · rename_i e
      rw [if_pos e] at h1 h2
      have := lcp_stop xs ys (by simpa using h1) (by simpa using h2)
      simpa using this
    · rename_i e
      simpa using e
theorem lcp_all : ∀ (t w : List UInt8), lcp t w = w.length → t.length = w.length → t = w
  | [], [], _, _ => rfl
  | [], _ :: _, _, h => by simp at h
  | _ :: _, [], _, h => by simp at h
  | x :: xs, y :: ys, h1, h2 => by
    unfold lcp at h1
    split at h1
    · rename_i e
      subst e
      rw [lcp_all xs ys (by simpa using h1) (by simpa using h2)]
    · simp at h1
theorem lcp_self : ∀ (w : List UInt8), lcp w w = w.length
  | [] => rfl
  | x :: xs => by simp [lcp, lcp_self xs]
/-- The five words of the program's row. -/
def wINF : List UInt8 := [105, 110, 102]
def wNAN : List UInt8 := [110, 97, 110]
def wNAR : List UInt8 := [78, 97, 82]
/-- Which word a text is: 2, 3, 4; 0: none. -/
def wordK (t : List UInt8) : Nat := if t = wINF then 2 else if t = wNAN then 3 else if t = wNAR then 4 else 0
/-- How far it goes on as one. -/
def wordN (t : List UInt8) : Nat := max (lcp t wINF) (max (lcp t wNAN) (lcp t wNAR))
/-- A text behind its sign: is it one; how far it goes on. -/
def bodyS (t : List UInt8) : Bool × Nat := if wordK t ≠ 0 then (true, 3) else ((numS t).1, max (wordN t) (numS t).2)
/-- A whole text: is it one; where it goes wrong. -/
def textS (l : List UInt8) : Bool × Nat :=
  match l with
  | 45 :: t => ((bodyS t).1, (bodyS t).2 + 1)
  | t => bodyS t
end Go.Cal
namespace Go.Cal
/-- The digits of a number without a sign, as they stand. -/
def numD (t : List UInt8) : List UInt8 :=
  match t.dropWhile isDig with
  | 46 :: r => t.takeWhile isDig ++ r.takeWhile isDig
  | _ => t.takeWhile isDig
/-- How many of them are behind the point. -/
def numB (t : List UInt8) : Nat :=
  match t.dropWhile isDig with
  | 46 :: r => (r.takeWhile isDig).length
  | _ => 0
/-- What is behind the digits. -/
def numR (t : List UInt8) : List UInt8 :=
  match t.dropWhile isDig with
  | 46 :: r => r.dropWhile isDig
  | r => r
/-- The exponent: what is behind the e, C at most. -/
def expM (C : Nat) (t : List UInt8) : Nat := min (numV (t.takeWhile isDig)) C
def expV (C : Nat) (t : List UInt8) : Int :=
  match t with
  | [] => 0
  | _ :: [] => 0
  | _ :: c :: r => if c = 45 then -(expM C r : Int) else if c = 43 then (expM C r : Int) else (expM C (c :: r) : Int)
theorem numD_digs (t : List UInt8) : ∀ c ∈ numD t, isDig c = true := by
  unfold numD
  split
  · intro c hc
    rcases List.mem_append.1 hc with hc | hc
    · exact take_digs _ c hc
    · exact take_digs _ c hc
  · exact take_digs _
/-- Without noughts at the ends. -/
def trL (l : List UInt8) : List UInt8 := l.dropWhile (· == 48)
def trR (l : List UInt8) : List UInt8 := (l.reverse.dropWhile (· == 48)).reverse
theorem trL_suffix (l : List UInt8) : trL l <:+ l := List.dropWhile_suffix _
theorem trR_prefix (l : List UInt8) : trR l <+: l := by
  unfold trR
  have := List.dropWhile_suffix (l := l.reverse) (· == 48)
  rw [← List.reverse_prefix] at this
  simpa using this
theorem trL_head (l : List UInt8) : (trL l).head? ≠ some 48 := by
  unfold trL
  intro h
  have := List.head?_dropWhile_not (· == (48 : UInt8)) l
  rw [h] at this
  simp at this
/-- What a text is. -/
structure Item where
  kind : Nat
  neg : Bool
  d : Nat
  k : Int
  big : Int
  cut : Bool
/-- A number of digits, times a power. -/
def itemV (neg : Bool) (digits : List UInt8) (k : Int) : Item :=
  let a := trL digits
  let b := trR a
  let k1 := k + ((a.length : Int) - (b.length : Int))
  if b = [] then ⟨1, neg, 0, 0, 0, false⟩
  else if 1000 ≤ (b.length : Int) + k1 - 1 then ⟨1, neg, 0, 0, 1, false⟩
  else if (b.length : Int) + k1 - 1 < -1000 then ⟨1, neg, 0, 0, -1, false⟩
  else if 1990 < b.length then ⟨1, neg, numV (b.take 1990 ++ [49]), k1 + ((b.length : Int) - 1991), 0, true⟩
  else ⟨1, neg, numV b, k1, 0, false⟩
/-- What stands behind the sign is. -/
def bodyV (C : Nat) (neg : Bool) (t : List UInt8) : Item :=
  if wordK t ≠ 0 then ⟨wordK t, neg, 0, 0, 0, false⟩ else itemV neg (numD t) (expV C (numR t) - (numB t : Int))
def textV (C : Nat) (l : List UInt8) : Item :=
  match l with
  | 45 :: t => bodyV C true t
  | t => bodyV C false t
end Go.Cal
namespace Go.Cal
/-- A row of bytes that begins with no digit. -/
def NoDig (r : List UInt8) : Prop := ∀ c s, r = c :: s → isDig c = false
theorem NoDig.nil : NoDig [] := fun c s e => by cases e
theorem NoDig.cons {c : UInt8} {r : List UInt8} (h : isDig c = false) : NoDig (c :: r) := fun c' s e => by injection e with e1 e2; subst e1; exact h
theorem dig_app {a b : List UInt8} (ha : ∀ c ∈ a, isDig c = true) (hb : ∀ c ∈ b, isDig c = true) : ∀ c ∈ a ++ b, isDig c = true := fun c hc => by
  rcases List.mem_append.1 hc with h | h
  · exact ha c h
  · exact hb c h
theorem dig_zero (m : Nat) : ∀ c ∈ List.replicate m (48 : UInt8), isDig c = true := fun c hc => by
  rw [List.eq_of_mem_replicate hc]; decide
/-- What is behind the digits: nothing, or an exponent. -/
structure ExpT (r : List UInt8) : Prop where
  ok : (expS r).1 = true
  head : ∀ c s, r = c :: s → c = 101 ∨ c = 69
theorem ExpT.nil : ExpT [] := ⟨rfl, fun c s e => by cases e⟩
theorem expV_cons (C : Nat) (e c : UInt8) (r : List UInt8) : expV C (e :: c :: r) = if c = 45 then -(expM C r : Int) else if c = 43 then (expM C r : Int) else (expM C (c :: r) : Int) := rfl
end Go.Cal
namespace Go.Cal
/-- How far the digits go, the point with them. -/
def numP (t : List UInt8) : Nat := t.length - (numR t).length
theorem numR_suffix (t : List UInt8) : numR t <:+ t := by
  unfold numR
  have h := List.dropWhile_suffix (l := t) isDig
  split
  · rename_i r e
    rw [e] at h
    exact ((List.dropWhile_suffix (l := r) isDig).trans (List.suffix_cons 46 r)).trans h
  · exact h
theorem num_pt {t r : List UInt8} (e : t.dropWhile isDig = 46 :: r) : numD t = t.takeWhile isDig ++ r.takeWhile isDig ∧ numB t = (r.takeWhile isDig).length ∧ numR t = r.dropWhile isDig ∧
    numS t = if (t.takeWhile isDig).isEmpty && (r.takeWhile isDig).isEmpty then (false, 1) else ((expS (r.dropWhile isDig)).1, (t.takeWhile isDig).length + 1 + (r.takeWhile isDig).length + (expS (r.dropWhile isDig)).2) := by
  unfold numD numB numR numS
  rw [e]
  exact ⟨rfl, rfl, rfl, rfl⟩
theorem num_np {t : List UInt8} (hne : ∀ r, t.dropWhile isDig = 46 :: r → False) : numD t = t.takeWhile isDig ∧ numB t = 0 ∧ numR t = t.dropWhile isDig ∧
    numS t = if (t.takeWhile isDig).isEmpty then (false, 0) else ((expS (t.dropWhile isDig)).1, (t.takeWhile isDig).length + (expS (t.dropWhile isDig)).2) := by
  unfold numD numB numR numS
  generalize t.takeWhile isDig = a
  generalize t.dropWhile isDig = x at hne ⊢
  match x, hne with
  | [], _ => exact ⟨rfl, rfl, rfl, rfl⟩
  | c :: s, hne =>
    refine ⟨?_, ?_, ?_, ?_⟩
    all_goals
      split
      · rename_i r e
        exact (hne r e).elim
      · rfl
theorem numS_eq (t : List UInt8) : numS t = if numD t = [] then (false, numP t) else ((expS (numR t)).1, numP t + (expS (numR t)).2) := by
  have hsp := congrArg List.length (span_split t)
  rw [List.length_append] at hsp
  unfold numP
  by_cases hp : ∃ r, t.dropWhile isDig = 46 :: r
  · obtain ⟨r, e⟩ := hp
    obtain ⟨h1, h2, h3, h4⟩ := num_pt e
    rw [h4, h1, h3]
    have hsp2 := congrArg List.length (span_split r)
    rw [List.length_append] at hsp2
    rw [e, List.length_cons] at hsp
    by_cases h : t.takeWhile isDig ++ r.takeWhile isDig = []
    · obtain ⟨g1, g2⟩ := List.append_eq_nil_iff.1 h
      rw [g1, List.length_nil] at hsp
      rw [g2, List.length_nil] at hsp2
      rw [if_pos h, g1, g2]
      exact Prod.ext rfl (by show 1 = _ - _; omega)
    · rw [if_neg h]
      have : ((t.takeWhile isDig).isEmpty && (r.takeWhile isDig).isEmpty) = false := by
        rw [Bool.and_eq_false_iff]
        by_cases g : t.takeWhile isDig = []
        · right
          simp only [g, List.nil_append] at h
          simpa using h
        · left
          simpa using g
      rw [this]
      exact Prod.ext rfl (by show _ + 1 + _ + _ = _ - _ + _; omega)
  · obtain ⟨h1, h2, h3, h4⟩ := num_np (fun r e => hp ⟨r, e⟩)
    rw [h4, h1, h3]
    by_cases h : t.takeWhile isDig = []
    · rw [if_pos h]
      rw [h, List.length_nil] at hsp
      rw [h]
      exact Prod.ext rfl (by show 0 = _ - _; omega)
    · rw [if_neg h]
      have : (t.takeWhile isDig).isEmpty = false := by simpa using h
      rw [this]
      exact Prod.ext rfl (by show _ + _ = _ - _ + _; omega)
theorem itemV_neg (neg : Bool) (ds : List UInt8) (k : Int) : itemV neg ds k = ⟨(itemV false ds k).kind, neg, (itemV false ds k).d, (itemV false ds k).k, (itemV false ds k).big, (itemV false ds k).cut⟩ := by
  unfold itemV
  simp only
  split
  · rfl
  · split
    · rfl
    · split
      · rfl
      · split <;> rfl
theorem expV_bound (C : Nat) (t : List UInt8) : -(C : Int) ≤ expV C t ∧ expV C t ≤ (C : Int) := by
  have h : ∀ r, expM C r ≤ C := fun r => by unfold expM; omega
  match t with
  | [] => exact ⟨by show _ ≤ (0 : Int); omega, by show (0 : Int) ≤ _; omega⟩
  | [_] => exact ⟨by show _ ≤ (0 : Int); omega, by show (0 : Int) ≤ _; omega⟩
  | e :: c :: r =>
    have h1 := h r
    have h2 := h (c :: r)
    rw [expV_cons]
    split
    · omega
    · split <;> omega
theorem numDB_le (t : List UInt8) : (numD t).length ≤ t.length ∧ numB t ≤ t.length := by
  have hsp := congrArg List.length (span_split t)
  rw [List.length_append] at hsp
  by_cases hp : ∃ r, t.dropWhile isDig = 46 :: r
  · obtain ⟨r, e⟩ := hp
    obtain ⟨h1, h2, _⟩ := num_pt e
    have hsp2 := congrArg List.length (span_split r)
    rw [List.length_append] at hsp2
    rw [e, List.length_cons] at hsp
    rw [h1, h2, List.length_append]
    omega
  · obtain ⟨h1, h2, _⟩ := num_np (fun r e => hp ⟨r, e⟩)
    rw [h1, h2]
    omega
theorem numD_le (t : List UInt8) : (numD t).length ≤ t.length := (numDB_le t).1
theorem numB_le (t : List UInt8) : numB t ≤ t.length := (numDB_le t).2
end Go.Cal
namespace Go.Cal
/-- A number as text. -/
def numT (n : Int) : List UInt8 := if n < 0 then 45 :: Lib.decDigits n.natAbs else Lib.decDigits n.natAbs
section Same
variable (S : List UInt8) (hS : ∀ c ∈ S, isDig c = true)
include hS
end Same
section Case
variable (W P : List UInt8) (hW : ∀ c ∈ W, isDig c = true) (hP : ∀ c ∈ P, isDig c = true)
include hW hP
end Case
end Go.Cal
namespace Go.Cal
open Go.Lib
/-- What stands ahead of the first c, what behind it, and is there one. -/
def cutC (c : UInt8) (l : List UInt8) : List UInt8 × List UInt8 × Bool := (l.takeWhile (· != c), (l.dropWhile (· != c)).drop 1, l.contains c)
/-- What has no c is not cut; what begins without one, is. -/
theorem take_none {c : UInt8} : ∀ {l : List UInt8}, c ∉ l → l.takeWhile (· != c) = l ∧ l.dropWhile (· != c) = []
  | [], _ => ⟨rfl, rfl⟩
  | x :: l, h => by
    have hx : (x != c) = true := by simpa using fun e : x = c => h (by simp [e])
    obtain ⟨h1, h2⟩ := take_none (l := l) fun e : c ∈ l => h (List.mem_cons_of_mem _ e)
    rw [List.takeWhile_cons_of_pos (p := (· != c)) hx, List.dropWhile_cons_of_pos (p := (· != c)) hx, h1, h2]
    exact ⟨rfl, rfl⟩
theorem cutC_none {c : UInt8} {l : List UInt8} (h : c ∉ l) : cutC c l = (l, [], false) := by
  unfold cutC
  obtain ⟨h1, h2⟩ := take_none h
  rw [h1, h2]
  simpa using h
theorem cutC_some {c : UInt8} {l r : List UInt8} (h : c ∉ l) : cutC c (l ++ c :: r) = (l, r, true) := by
  unfold cutC
  have h0 : ∀ x ∈ l, (x != c) = true := fun x hx => by simpa using fun e : x = c => h (e ▸ hx)
  rw [List.takeWhile_append_of_pos h0, List.dropWhile_append_of_pos h0]
  simp
/-- A numeral is read as the number that it is. -/
theorem uint_digs : ∀ (l : List UInt8) (acc : Nat), (∀ c ∈ l, isDig c = true) → acc * 10 ^ l.length + numV l < 1844674407370955162 → parseUint10 acc l = .ok (acc * 10 ^ l.length + numV l)
  | [], acc, _, _ => by simp [parseUint10, numV]
  | c :: r, acc, hd, hb => by
    have hc := hd c (by simp)
    unfold isDig at hc
    simp only [Bool.and_eq_true, decide_eq_true_eq] at hc
    have hn : numV (c :: r) = (c.toNat - 48) * 10 ^ r.length + numV r := by
      have := numV_append [c] r
      rw [List.singleton_append] at this
      rw [this]; simp [numV]
    have hs : acc * 10 ^ (c :: r).length + numV (c :: r) = (acc * 10 + (c.toNat - 48)) * 10 ^ r.length + numV r := by
      rw [hn, List.length_cons, Nat.pow_succ, Nat.add_mul, Nat.add_assoc, Nat.mul_comm (10 ^ r.length) 10, ← Nat.mul_assoc]
    rw [hs] at hb ⊢
    have hp : 0 < 10 ^ r.length := Nat.pow_pos (by decide)
    have h1 : (acc * 10 + (c.toNat - 48)) * 1 ≤ (acc * 10 + (c.toNat - 48)) * 10 ^ r.length := Nat.mul_le_mul_left _ hp
    unfold parseUint10
    rw [if_pos hc, if_neg (by omega), if_neg (by omega)]
    exact uint_digs r _ (fun x hx => hd x (by simp [hx])) hb
theorem mag_dec {u : Nat} (hu : u < 1844674407370955162) : parseMag (decDigits u) = .ok u := by
  unfold parseMag
  rw [if_neg (dec_ne u)]
  have := uint_digs (decDigits u) 0 (dec_digs u) (by rw [Nat.zero_mul, Nat.zero_add, numV_dec]; exact hu)
  rwa [Nat.zero_mul, Nat.zero_add, numV_dec] at this
theorem atoi_num {n : Int} (h : n.natAbs < 1000000) : atoiAll (numT n) = .ok n := by
  unfold numT
  by_cases h0 : n < 0
  · rw [if_pos h0, atoiAll_minus, mag_dec (by omega)]
    show (if _ then NumEnd.range else _) = _
    rw [if_neg (by omega)]
    congr 1
    omega
  · rw [if_neg h0]
    match hd : decDigits n.natAbs, dec_ne n.natAbs with
    | c :: r, _ =>
      have hc : isDig c = true := dec_digs n.natAbs c (by rw [hd]; simp)
      have h1 := hc
      unfold isDig at h1
      simp only [Bool.and_eq_true, decide_eq_true_eq] at h1
      rw [atoiAll_plain c r (by omega) (by omega), ← hd, mag_dec (by omega)]
      show (if _ then NumEnd.range else _) = _
      rw [if_neg (by omega)]
      congr 1
      omega
end Go.Cal
namespace Go.Cal
open Go.Lib
/-- The digits S, times ten to the power of k, as they are written. -/
def lyB (S : List UInt8) (k : Int) : List UInt8 :=
  if 0 ≤ k ∧ (S.length : Int) + k ≤ 21 then S ++ List.replicate k.toNat 48
  else if 0 < (S.length : Int) + k ∧ (S.length : Int) + k ≤ 21 then S.take ((S.length : Int) + k).toNat ++ 46 :: S.drop ((S.length : Int) + k).toNat
  else if -6 < (S.length : Int) + k ∧ (S.length : Int) + k ≤ 0 then 48 :: 46 :: (List.replicate (-((S.length : Int) + k)).toNat 48 ++ S)
  else if S.length = 1 then S ++ 101 :: numT ((S.length : Int) + k - 1)
  else S.take 1 ++ 46 :: (S.drop 1 ++ 101 :: numT ((S.length : Int) + k - 1))
/-- Are digits right (of a number that is normal)? -/
def DRight (d : Nat) (k : Int) : Prop := (d = 0 ∧ k = 0) ∨ (0 < d ∧ d % 10 ≠ 0 ∧ (decDigits d).length ≤ 2000 ∧ -5000 ≤ k ∧ k ≤ 5000)
instance (d : Nat) (k : Int) : Decidable (DRight d k) := by unfold DRight; exact inferInstance
/-- How the text of digits is put together. -/
structure LyP (S : List UInt8) (k : Int) (pt ex : Bool) (W P : List UInt8) (k0 : Int) (a b : Nat) : Prop where
  eq : lyB S k = W ++ ((if pt = true then 46 :: P else []) ++ (if ex = true then 101 :: numT k0 else []))
  np : pt = false → P = []
  ne : ex = false → k0 = 0
  all : W ++ P = List.replicate a 48 ++ (S ++ List.replicate b 48)
  kk : k = k0 + b - P.length
  w : W ≠ []
  lo : -10000 ≤ k0 ∧ k0 ≤ 10000
  far : ex = true ↔ 21 < (S.length : Int) + k ∨ (S.length : Int) + k < -5
  point : pt = true ↔ (ex = true ∧ 1 < S.length) ∨ (ex = false ∧ k < 0)
section
variable {S W P : List UInt8} {k k0 : Int} {pt ex : Bool} {a b : Nat}
theorem LyP.digW (h : LyP S k pt ex W P k0 a b) (hd : ∀ c ∈ S, isDig c = true) : ∀ c ∈ W, isDig c = true := fun c hc => by
  have h1 : c ∈ W ++ P := List.mem_append.2 (.inl hc)
  rw [h.all] at h1
  exact dig_app (dig_zero a) (dig_app hd (dig_zero b)) c h1
theorem LyP.digP (h : LyP S k pt ex W P k0 a b) (hd : ∀ c ∈ S, isDig c = true) : ∀ c ∈ P, isDig c = true := fun c hc => by
  have h1 : c ∈ W ++ P := List.mem_append.2 (.inr hc)
  rw [h.all] at h1
  exact dig_app (dig_zero a) (dig_app hd (dig_zero b)) c h1
end
theorem dig_no {l : List UInt8} (hd : ∀ c ∈ l, isDig c = true) {c : UInt8} (hc : isDig c = false) : c ∉ l := fun h => by rw [hd c h] at hc; cases hc
/-- Digits that nat.Parse takes. -/
def pOkL (l : List UInt8) : Bool := !l.isEmpty && decide (l.length ≤ 2000) && (!(l.head? == some 48) || decide (l.length ≤ 1)) && l.all isDig
/-- What Unlay makes of a text: where none is wrong, the digits that it tries. -/
def powS (l : List UInt8) : Option Int := match atoiAll l with
  | .ok k => if max k (-k) < 20000 then some k else none
  | _ => none
def candA (t : List UInt8) : Option Int := if (cutC 101 t).2.2 = true then powS (cutC 101 t).2.1 else some 0
def candD (t : List UInt8) : List UInt8 × List UInt8 := ((cutC 46 (cutC 101 t).1).1, (cutC 46 (cutC 101 t).1).2.1)
end Go.Cal
namespace Go.Cal
open Go.Lib
structure Dgt (d : Nat) (k : Int) : Prop where
  pos : 0 < d
  ten : d % 10 ≠ 0
  len : (decDigits d).length ≤ 2000
  lo : -5000 ≤ k
  hi : k ≤ 5000
theorem DRight.cases {d : Nat} {k : Int} (h : DRight d k) : (d = 0 ∧ k = 0) ∨ Dgt d k := by
  rcases h with h | ⟨h1, h2, h3, h4, h5⟩
  · exact .inl h
  · exact .inr ⟨h1, h2, h3, h4, h5⟩
theorem Dgt.right {d : Nat} {k : Int} (h : Dgt d k) : DRight d k := .inr ⟨h.pos, h.ten, h.len, h.lo, h.hi⟩
theorem Dgt.ok {d : Nat} {k : Int} (h : Dgt d k) : pOkL (decDigits d) = true := by
  have h1 : (decDigits d).isEmpty = false := by simpa using dec_ne d
  have h2 : ((decDigits d).head? == some 48) = false := by simpa using dec_head h.pos
  have h3 : (decDigits d).all isDig = true := List.all_eq_true.2 (dec_digs d)
  unfold pOkL
  rw [h1, h2, h3, decide_eq_true h.len]
  rfl
theorem powS_num {k : Int} (h : -10000 ≤ k ∧ k ≤ 10000) : powS (numT k) = some k := by
  unfold powS
  rw [atoi_num (by omega)]
  show (if _ then some k else none) = _
  rw [if_pos (by omega)]
theorem LyP.cut {S W P : List UInt8} {k k0 : Int} {pt ex : Bool} {a b : Nat} (h : LyP S k pt ex W P k0 a b) (hd : ∀ c ∈ S, isDig c = true) : candA (lyB S k) = some k0 ∧ candD (lyB S k) = (W, P) := by
  have hW := h.digW hd
  have hP := h.digP hd
  have hA : (101 : UInt8) ∉ W ++ (if pt = true then 46 :: P else []) := by
    intro hc
    rcases List.mem_append.1 hc with hc | hc
    · exact dig_no hW (by decide) hc
    · split at hc
      · rcases List.mem_cons.1 hc with hc | hc
        · exact absurd hc (by decide)
        · exact dig_no hP (by decide) hc
      · cases hc
  have h1 : cutC 101 (lyB S k) = (W ++ (if pt = true then 46 :: P else []), (if ex = true then numT k0 else []), ex) := by
    rw [h.eq, ← List.append_assoc]
    cases ex
    · have e1 : (if false = true then (101 : UInt8) :: numT k0 else []) = [] := rfl
      have e2 : (if false = true then numT k0 else []) = [] := rfl
      rw [e1, e2, List.append_nil]
      exact cutC_none hA
    · have e1 : (if true = true then (101 : UInt8) :: numT k0 else []) = 101 :: numT k0 := rfl
      have e2 : (if true = true then numT k0 else []) = numT k0 := rfl
      rw [e1, e2]
      exact cutC_some hA
  have h2 : cutC 46 (W ++ (if pt = true then 46 :: P else [])) = (W, P, pt) := by
    cases hp : pt
    · rw [if_neg (by simp), List.append_nil, h.np hp]
      exact cutC_none (dig_no hW (by decide))
    · rw [if_pos rfl]
      exact cutC_some (dig_no hW (by decide))
  refine ⟨?_, ?_⟩
  · unfold candA
    rw [h1]
    cases he : ex
    · rw [if_neg (by simp), h.ne he]
    · rw [if_pos rfl]
      exact powS_num h.lo
  · unfold candD
    rw [h1]
    simp only
    rw [h2]
end Go.Cal
