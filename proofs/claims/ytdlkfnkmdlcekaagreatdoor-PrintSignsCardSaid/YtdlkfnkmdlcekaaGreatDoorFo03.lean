/- Plain: what a text of a number is worth; where no text goes on. Conditions: none. -/
/- Plain: texts of numbers put together, and what they are worth. Conditions: none. -/
/- Plain: how far a number's digits go. Conditions: none. -/
/- Plain: a sign ahead; words with more behind; the place where no text goes on. Conditions: none. -/
/- Plain: bounds of what is told; texts that are one number. Conditions: none. -/
import Derived.Test.YtdlkfnkmdlcekaaGreatDoorFo02
namespace Go.Cal
theorem outA_le : ∀ (st : Nat) (l : List UInt8), (outA st l).2 ≤ l.length
  | st, [] => Nat.le_refl _
  | st, c :: t => by
    by_cases h : nxt st c = 99
    · rw [outA_dead h]; simp
    · rw [outA_go rfl h]
      have := outA_le (nxt st c) t
      simp; omega
theorem outA_ok : ∀ (st : Nat) (l : List UInt8), (outA st l).1 = true → (outA st l).2 = l.length
  | st, [], _ => rfl
  | st, c :: t, h0 => by
    by_cases h : nxt st c = 99
    · rw [outA_dead h] at h0; cases h0
    · rw [outA_go rfl h] at h0 ⊢
      have := outA_ok (nxt st c) t h0
      simp [this]
def liveL : List Nat := [0, 1, 2, 3, 4, 5, 6, 7, 8, 10, 11, 12, 20, 21, 22, 30, 31, 32]
theorem nxt_live {st : Nat} (h : st ∈ liveL) (c : UInt8) (h9 : nxt st c ≠ 99) : nxt st c ∈ liveL := by
  revert h9
  unfold nxt
  split
  · split
    · split
      · intro _; decide
      · intro e; exact absurd rfl e
    · split
      · intro _; decide
      · split
        · intro _; decide
        · split
          · intro _; decide
          · intro _; decide
  · split
    · split
      · intro _; decide
      · split
        · intro _; decide
        · intro _; decide
    · split
      · intro _; decide
      · split
        · intro _; decide
        · split
          · intro _; decide
          · split
            · rename_i h6
              intro _
              rcases h6 with ⟨rfl, _⟩ | ⟨rfl, _⟩ | ⟨rfl, _⟩ | ⟨rfl, _⟩ | ⟨rfl, _⟩ | ⟨rfl, _⟩ <;> decide
            · intro e; exact absurd rfl e
/-- The endings that the law tries. -/
def endL : List (List UInt8) := [[], [48], [110, 102], [102], [105, 110, 102], [97, 110], [110], [97, 82], [82]]
theorem end_some : ∀ st ∈ liveL, ∃ e ∈ endL, (outA st e).1 = true := by decide
theorem place_goes : ∀ (st : Nat) (l : List UInt8), st ∈ liveL → (outA st l).1 = false → ∃ e ∈ endL, (outA st (l.take (outA st l).2 ++ e)).1 = true
  | st, [], hs, _ => by simpa using end_some st hs
  | st, c :: t, hs, h0 => by
    by_cases h : nxt st c = 99
    · rw [outA_dead h]
      simpa using end_some st hs
    · rw [outA_go rfl h] at h0 ⊢
      obtain ⟨e, he, h1⟩ := place_goes (nxt st c) t (nxt_live hs c h) h0
      refine ⟨e, he, ?_⟩
      rw [List.take_succ_cons, List.cons_append, outA_go rfl h]
      exact h1
theorem place_dead : ∀ (st : Nat) (l e : List UInt8), (outA st l).1 = false → (outA st l).2 < l.length → outA st (l.take ((outA st l).2 + 1) ++ e) = (false, (outA st l).2)
  | st, [], e, _, h => by simp at h
  | st, c :: t, e, h0, hl => by
    by_cases h : nxt st c = 99
    · rw [outA_dead h]
      simp only [Nat.zero_add, List.take_succ_cons, List.take_zero, List.cons_append]
      rw [outA_dead h]
    · rw [outA_go rfl h] at h0 hl ⊢
      have := place_dead (nxt st c) t e h0 (by simpa using hl)
      simp only at this ⊢
      rw [List.take_succ_cons, List.cons_append, outA_go rfl h, this]
/-- The digits of a number without a sign, as they stand. -/
def numD (t : List UInt8) : List UInt8 :=
  match t.dropWhile isDig with
  | 46 :: r => t.takeWhile isDig ++ r.takeWhile isDig
  | _ => t.takeWhile isDig
/-- How many of them are behind the point. -/
def numB (t : List UInt8) : Nat :=
  match t.dropWhile isDig with
  | 46 :: r => (r.takeWhile isDig).length
  | _ => 0
/-- What is behind the digits. -/
def numR (t : List UInt8) : List UInt8 :=
  match t.dropWhile isDig with
  | 46 :: r => r.dropWhile isDig
  | r => r
/-- The exponent: what is behind the e, C at most. -/
def expM (C : Nat) (t : List UInt8) : Nat := min (numV (t.takeWhile isDig)) C
def expV (C : Nat) (t : List UInt8) : Int :=
  match t with
  | [] => 0
  | _ :: [] => 0
  | _ :: c :: r => if c = 45 then -(expM C r : Int) else if c = 43 then (expM C r : Int) else (expM C (c :: r) : Int)
theorem numD_digs (t : List UInt8) : ∀ c ∈ numD t, isDig c = true := by
  unfold numD
  split
  · intro c hc
    rcases List.mem_append.1 hc with hc | hc
    · exact take_digs _ c hc
    · exact take_digs _ c hc
  · exact take_digs _
/-- Without noughts at the ends. -/
def trL (l : List UInt8) : List UInt8 := l.dropWhile (· == 48)
def trR (l : List UInt8) : List UInt8 := (l.reverse.dropWhile (· == 48)).reverse
theorem trL_suffix (l : List UInt8) : trL l <:+ l := List.dropWhile_suffix _
theorem trR_prefix (l : List UInt8) : trR l <+: l := by
  unfold trR
  have := List.dropWhile_suffix (l := l.reverse) (· == 48)
  rw [← List.reverse_prefix] at this
  simpa using this
theorem trL_head (l : List UInt8) : (trL l).head? ≠ some 48 := by
  unfold trL
  intro h
  have := List.head?_dropWhile_not (· == (48 : UInt8)) l
  rw [h] at this
  simp at this
theorem trR_last (l : List UInt8) : (trR l).getLast? ≠ some 48 := by
  unfold trR
  rw [List.getLast?_reverse]
  exact trL_head l.reverse
/-- What a text is. -/
structure Item where
  kind : Nat
  neg : Bool
  d : Nat
  k : Int
  big : Int
  cut : Bool
def noItem : Item := ⟨0, false, 0, 0, 0, false⟩
/-- A number of digits, times a power. -/
def itemV (neg : Bool) (digits : List UInt8) (k : Int) : Item :=
  let a := trL digits
  let b := trR a
  let k1 := k + ((a.length : Int) - (b.length : Int))
  if b = [] then ⟨1, neg, 0, 0, 0, false⟩
  else if 1000 ≤ (b.length : Int) + k1 - 1 then ⟨1, neg, 0, 0, 1, false⟩
  else if (b.length : Int) + k1 - 1 < -1000 then ⟨1, neg, 0, 0, -1, false⟩
  else if 1990 < b.length then ⟨1, neg, numV (b.take 1990 ++ [49]), k1 + ((b.length : Int) - 1991), 0, true⟩
  else ⟨1, neg, numV b, k1, 0, false⟩
/-- What stands behind the sign is. -/
def bodyV (C : Nat) (neg : Bool) (t : List UInt8) : Item :=
  if wordK t ≠ 0 then ⟨wordK t, neg, 0, 0, 0, false⟩ else itemV neg (numD t) (expV C (numR t) - (numB t : Int))
def textV (C : Nat) (l : List UInt8) : Item :=
  match l with
  | 45 :: t => bodyV C true t
  | t => bodyV C false t
end Go.Cal
namespace Go.Cal
/-- A row of bytes that begins with no digit. -/
def NoDig (r : List UInt8) : Prop := ∀ c s, r = c :: s → isDig c = false
theorem NoDig.nil : NoDig [] := fun c s e => by cases e
theorem NoDig.cons {c : UInt8} {r : List UInt8} (h : isDig c = false) : NoDig (c :: r) := fun c' s e => by injection e with e1 e2; subst e1; exact h
theorem span_app {d r : List UInt8} (hd : ∀ c ∈ d, isDig c = true) (hr : NoDig r) : (d ++ r).takeWhile isDig = d ∧ (d ++ r).dropWhile isDig = r := by
  induction d with
  | nil =>
    match r with
    | [] => exact ⟨rfl, rfl⟩
    | c :: s => exact ⟨List.takeWhile_cons_of_neg (by simp [hr c s rfl]), List.dropWhile_cons_of_neg (by simp [hr c s rfl])⟩
  | cons x d ih =>
    have hx := hd x (by simp)
    obtain ⟨h1, h2⟩ := ih (fun c hc => hd c (by simp [hc]))
    exact ⟨by rw [List.cons_append, List.takeWhile_cons_of_pos hx, h1], by rw [List.cons_append, List.dropWhile_cons_of_pos hx, h2]⟩
theorem dig_app {a b : List UInt8} (ha : ∀ c ∈ a, isDig c = true) (hb : ∀ c ∈ b, isDig c = true) : ∀ c ∈ a ++ b, isDig c = true := fun c hc => by
  rcases List.mem_append.1 hc with h | h
  · exact ha c h
  · exact hb c h
theorem dig_zero (m : Nat) : ∀ c ∈ List.replicate m (48 : UInt8), isDig c = true := fun c hc => by
  rw [List.eq_of_mem_replicate hc]; decide
/-- What is behind the digits: nothing, or an exponent. -/
structure ExpT (r : List UInt8) : Prop where
  ok : (expS r).1 = true
  head : ∀ c s, r = c :: s → c = 101 ∨ c = 69
theorem ExpT.noDig {r : List UInt8} (h : ExpT r) : NoDig r := fun c s e => by rcases h.head c s e with rfl | rfl <;> decide
theorem ExpT.nil : ExpT [] := ⟨rfl, fun c s e => by cases e⟩
theorem expN_digs {d : List UInt8} (hd : ∀ c ∈ d, isDig c = true) (h0 : d ≠ []) : (expN d).1 = true := by
  obtain ⟨h1, h2⟩ := span_app (r := []) hd .nil
  rw [List.append_nil] at h1 h2
  unfold expN
  rw [h1, h2]
  simpa using h0
/-- An exponent without a sign, with a plus, with a minus. -/
theorem ExpT.plain {e : UInt8} (he : e = 101 ∨ e = 69) {d : List UInt8} (hd : ∀ c ∈ d, isDig c = true) (h0 : d ≠ []) : ExpT (e :: d) := by
  refine ⟨?_, fun c s h => by injection h with h1 h2; subst h1; exact he⟩
  rw [expS_cons, if_pos he]
  show (expE d).1 = true
  match d, h0 with
  | x :: d, _ =>
    have hx := not_dig (hd x (by simp))
    rw [expE_cons, if_neg (by rintro (rfl | rfl); exact hx.2.2.2.2.2.2.2.1 rfl; exact hx.1 rfl)]
    exact expN_digs hd (by simp)
theorem ExpT.sign {e s : UInt8} (he : e = 101 ∨ e = 69) (hs : s = 43 ∨ s = 45) {d : List UInt8} (hd : ∀ c ∈ d, isDig c = true) (h0 : d ≠ []) : ExpT (e :: s :: d) := by
  refine ⟨?_, fun c s h => by injection h with h1 h2; subst h1; exact he⟩
  rw [expS_cons, if_pos he]
  show (expE (s :: d)).1 = true
  rw [expE_cons, if_pos hs]
  exact expN_digs hd h0
theorem take_all {d : List UInt8} (hd : ∀ c ∈ d, isDig c = true) : d.takeWhile isDig = d := by
  have := (span_app (r := []) hd .nil).1
  rwa [List.append_nil] at this
theorem expV_cons (C : Nat) (e c : UInt8) (r : List UInt8) : expV C (e :: c :: r) = if c = 45 then -(expM C r : Int) else if c = 43 then (expM C r : Int) else (expM C (c :: r) : Int) := rfl
theorem expV_plain {C : Nat} {e : UInt8} {d : List UInt8} (hd : ∀ c ∈ d, isDig c = true) (h0 : d ≠ []) : expV C (e :: d) = (min (numV d) C : Nat) := by
  match d, h0 with
  | x :: d, _ =>
    have hx := not_dig (hd x (by simp))
    rw [expV_cons, if_neg hx.1, if_neg hx.2.2.2.2.2.2.2.1]
    unfold expM
    rw [take_all hd]
theorem expV_plus {C : Nat} {e : UInt8} {d : List UInt8} (hd : ∀ c ∈ d, isDig c = true) : expV C (e :: 43 :: d) = (min (numV d) C : Nat) := by
  rw [expV_cons, if_neg (by decide), if_pos rfl]
  unfold expM
  rw [take_all hd]
theorem expV_less {C : Nat} {e : UInt8} {d : List UInt8} (hd : ∀ c ∈ d, isDig c = true) : expV C (e :: 45 :: d) = -((min (numV d) C : Nat) : Int) := by
  rw [expV_cons, if_pos rfl]
  unfold expM
  rw [take_all hd]
/-- Digits, and what is behind them. -/
theorem num_plain {d r : List UInt8} (hd : ∀ c ∈ d, isDig c = true) (h0 : d ≠ []) (hr : ExpT r) : (numS (d ++ r)).1 = true ∧ numD (d ++ r) = d ∧ numB (d ++ r) = 0 ∧ numR (d ++ r) = r := by
  obtain ⟨h1, h2⟩ := span_app hd hr.noDig
  have hne : d.isEmpty = false := by simpa using h0
  have hp : ∀ s, r = 46 :: s → False := fun s e => by rcases hr.head 46 s e with h | h <;> exact absurd h (by decide)
  unfold numS numD numB numR
  rw [h2]
  match r, hr, hp with
  | [], _, _ =>
    rw [List.append_nil] at h1 ⊢
    simp [h1, h0, expS]
  | c :: s, hr, hp =>
    have hc : c ≠ 46 := fun e => hp s (by rw [e])
    refine ⟨?_, ?_, ?_, ?_⟩
    · split
      · rename_i s' e; injection e with e1 e2; exact absurd e1 hc
      · rw [h1, hne]; simpa using hr.ok
    · split
      · rename_i s' e; injection e with e1 e2; exact absurd e1 hc
      · exact h1
    · split
      · rename_i s' e; injection e with e1 e2; exact absurd e1 hc
      · rfl
    · split
      · rename_i s' e; injection e with e1 e2; exact absurd e1 hc
      · rfl
/-- Digits, a point, digits, and what is behind them. -/
theorem num_point {d d2 r : List UInt8} (hd : ∀ c ∈ d, isDig c = true) (hd2 : ∀ c ∈ d2, isDig c = true) (h0 : d ≠ [] ∨ d2 ≠ []) (hr : ExpT r) :
    (numS (d ++ 46 :: (d2 ++ r))).1 = true ∧ numD (d ++ 46 :: (d2 ++ r)) = d ++ d2 ∧ numB (d ++ 46 :: (d2 ++ r)) = d2.length ∧ numR (d ++ 46 :: (d2 ++ r)) = r := by
  obtain ⟨h1, h2⟩ := span_app (r := 46 :: (d2 ++ r)) hd (.cons (by decide))
  obtain ⟨h3, h4⟩ := span_app hd2 hr.noDig
  unfold numS numD numB numR
  rw [h2]
  simp only [h1, h3, h4]
  refine ⟨?_, by trivial⟩
  rw [if_neg]
  · exact hr.ok
  · rcases h0 with h | h <;> simp [h]
/-- The same digits but for noughts at the ends, the exponent with them: the same number. -/
theorem itemV_eq {neg : Bool} {d1 d2 : List UInt8} {k1 k2 : Int} (h : trR (trL d1) = trR (trL d2)) (hk : trR (trL d1) ≠ [] → k1 + (trL d1).length = k2 + (trL d2).length) : itemV neg d1 k1 = itemV neg d2 k2 := by
  unfold itemV
  simp only
  rw [h]
  by_cases h0 : trR (trL d2) = []
  · rw [if_pos h0, if_pos h0]
  · have := hk (by rw [h]; exact h0)
    have e : k1 + (((trL d1).length : Int) - ((trR (trL d2)).length : Int)) = k2 + (((trL d2).length : Int) - ((trR (trL d2)).length : Int)) := by omega
    rw [e]
theorem trL_zeros (m : Nat) (l : List UInt8) : trL (List.replicate m 48 ++ l) = trL l := by
  induction m with
  | zero => rfl
  | succ m ih => rw [List.replicate_succ, List.cons_append]; unfold trL; rw [List.dropWhile_cons_of_pos (by decide)]; exact ih
theorem trL_zero (l : List UInt8) : trL (48 :: l) = trL l := trL_zeros 1 l
theorem trR_zeros (m : Nat) (l : List UInt8) : trR (l ++ List.replicate m 48) = trR l := by
  unfold trR
  rw [List.reverse_append, List.reverse_replicate]
  have := trL_zeros m l.reverse
  unfold trL at this
  rw [this]
theorem trR_self {l : List UInt8} (h : l.getLast? ≠ some 48) : trR l = l := by
  unfold trR
  have : l.reverse.dropWhile (· == 48) = l.reverse := by
    match hl : l.reverse with
    | [] => rfl
    | x :: s =>
      have : l.getLast? = some x := by
        rw [← List.reverse_reverse l, List.getLast?_reverse, hl]; rfl
      rw [List.dropWhile_cons_of_neg]
      intro e
      rw [this] at h
      exact h (by simpa using e)
  rw [this, List.reverse_reverse]
/-- Noughts behind a row that has another digit stay behind it. -/
theorem trL_append {l m : List UInt8} (h : trL l ≠ []) : trL (l ++ m) = trL l ++ m := by
  induction l with
  | nil => exact absurd rfl h
  | cons x l ih =>
    by_cases hx : x = 48
    · subst hx
      rw [trL_zero] at h ⊢
      rw [List.cons_append, trL_zero]
      exact ih h
    · have e : ∀ r : List UInt8, trL (x :: r) = x :: r := fun r => List.dropWhile_cons_of_neg (by simpa using hx)
      rw [List.cons_append, e, e]; rfl
theorem trL_all {l : List UInt8} (h : trL l = []) : l = List.replicate l.length 48 := by
  induction l with
  | nil => rfl
  | cons x l ih =>
    by_cases hx : x = 48
    · subst hx
      rw [trL_zero] at h
      rw [List.length_cons, List.replicate_succ, ← ih h]
    · have e : trL (x :: l) = x :: l := List.dropWhile_cons_of_neg (by simpa using hx)
      rw [e] at h; cases h
theorem numS_head {t : List UInt8} (h : (numS t).1 = true) : ∃ c r, t = c :: r ∧ (isDig c = true ∨ c = 46) := by
  match t with
  | [] => exact absurd h (by decide)
  | c :: r =>
    refine ⟨c, r, rfl, ?_⟩
    by_cases h1 : isDig c = true
    · exact .inl h1
    · by_cases h2 : c = 46
      · exact .inr h2
      · rw [numS_other (by simpa using h1) h2] at h; cases h
theorem body_num {t : List UInt8} (h : (numS t).1 = true) (C : Nat) (neg : Bool) : (bodyS t).1 = true ∧ bodyV C neg t = itemV neg (numD t) (expV C (numR t) - (numB t : Int)) := by
  obtain ⟨c, r, rfl, hc⟩ := numS_head h
  have hk : wordK (c :: r) = 0 := by
    unfold wordK wINF wNAN wNAR
    rcases hc with hc | rfl
    · have := not_dig hc
      rw [if_neg (by simp [this.2.1]), if_neg (by simp [this.2.2.1]), if_neg (by simp [this.2.2.2.1])]
    · rw [if_neg (by simp), if_neg (by simp), if_neg (by simp)]
  unfold bodyS bodyV
  rw [if_neg (by simp [hk]), if_neg (by simp [hk])]
  exact ⟨h, rfl⟩
theorem text_pos {t : List UInt8} (h : (numS t).1 = true) (C : Nat) : (textS t).1 = true ∧ textV C t = itemV false (numD t) (expV C (numR t) - (numB t : Int)) := by
  obtain ⟨h1, h2⟩ := body_num h C false
  obtain ⟨c, r, rfl, hc⟩ := numS_head h
  have h45 : c ≠ 45 := by rcases hc with hc | rfl; exact (not_dig hc).1; decide
  unfold textS textV
  constructor
  · split
    · rename_i e; injection e with e1 e2; exact absurd e1 h45
    · exact h1
  · split
    · rename_i e; injection e with e1 e2; exact absurd e1 h45
    · exact h2
theorem text_neg {t : List UInt8} (h : (numS t).1 = true) (C : Nat) : (textS (45 :: t)).1 = true ∧ textV C (45 :: t) = itemV true (numD t) (expV C (numR t) - (numB t : Int)) := by
  obtain ⟨h1, h2⟩ := body_num h C true
  exact ⟨h1, h2⟩
end Go.Cal
namespace Go.Cal
/-- How far the digits go, the point with them. -/
def numP (t : List UInt8) : Nat := t.length - (numR t).length
theorem numR_suffix (t : List UInt8) : numR t <:+ t := by
  unfold numR
  have h := List.dropWhile_suffix (l := t) isDig
  split
  · rename_i r e
    rw [e] at h
    exact ((List.dropWhile_suffix (l := r) isDig).trans (List.suffix_cons 46 r)).trans h
  · exact h
theorem num_pt {t r : List UInt8} (e : t.dropWhile isDig = 46 :: r) : numD t = t.takeWhile isDig ++ r.takeWhile isDig ∧ numB t = (r.takeWhile isDig).length ∧ numR t = r.dropWhile isDig ∧
    numS t = if (t.takeWhile isDig).isEmpty && (r.takeWhile isDig).isEmpty then (false, 1) else ((expS (r.dropWhile isDig)).1, (t.takeWhile isDig).length + 1 + (r.takeWhile isDig).length + (expS (r.dropWhile isDig)).2) := by
  unfold numD numB numR numS
  rw [e]
  exact ⟨rfl, rfl, rfl, rfl⟩
theorem num_np {t : List UInt8} (hne : ∀ r, t.dropWhile isDig = 46 :: r → False) : numD t = t.takeWhile isDig ∧ numB t = 0 ∧ numR t = t.dropWhile isDig ∧
    numS t = if (t.takeWhile isDig).isEmpty then (false, 0) else ((expS (t.dropWhile isDig)).1, (t.takeWhile isDig).length + (expS (t.dropWhile isDig)).2) := by
  unfold numD numB numR numS
  generalize t.takeWhile isDig = a
  generalize t.dropWhile isDig = x at hne ⊢
  match x, hne with
  | [], _ => exact ⟨rfl, rfl, rfl, rfl⟩
  | c :: s, hne =>
    refine ⟨?_, ?_, ?_, ?_⟩
    all_goals
      split
      · rename_i r e
        exact (hne r e).elim
      · rfl
theorem numS_eq (t : List UInt8) : numS t = if numD t = [] then (false, numP t) else ((expS (numR t)).1, numP t + (expS (numR t)).2) := by
  have hsp := congrArg List.length (span_split t)
  rw [List.length_append] at hsp
  unfold numP
  by_cases hp : ∃ r, t.dropWhile isDig = 46 :: r
  · obtain ⟨r, e⟩ := hp
    obtain ⟨h1, h2, h3, h4⟩ := num_pt e
    rw [h4, h1, h3]
    have hsp2 := congrArg List.length (span_split r)
    rw [List.length_append] at hsp2
    rw [e, List.length_cons] at hsp
    by_cases h : t.takeWhile isDig ++ r.takeWhile isDig = []
    · obtain ⟨g1, g2⟩ := List.append_eq_nil_iff.1 h
      rw [g1, List.length_nil] at hsp
      rw [g2, List.length_nil] at hsp2
      rw [if_pos h, g1, g2]
      exact Prod.ext rfl (by show 1 = _ - _; omega)
    · rw [if_neg h]
      have : ((t.takeWhile isDig).isEmpty && (r.takeWhile isDig).isEmpty) = false := by
        rw [Bool.and_eq_false_iff]
        by_cases g : t.takeWhile isDig = []
        · right
          simp only [g, List.nil_append] at h
          simpa using h
        · left
          simpa using g
      rw [this]
      exact Prod.ext rfl (by show _ + 1 + _ + _ = _ - _ + _; omega)
  · obtain ⟨h1, h2, h3, h4⟩ := num_np (fun r e => hp ⟨r, e⟩)
    rw [h4, h1, h3]
    by_cases h : t.takeWhile isDig = []
    · rw [if_pos h]
      rw [h, List.length_nil] at hsp
      rw [h]
      exact Prod.ext rfl (by show 0 = _ - _; omega)
    · rw [if_neg h]
      have : (t.takeWhile isDig).isEmpty = false := by simpa using h
      rw [this]
      exact Prod.ext rfl (by show _ + _ = _ - _ + _; omega)
theorem itemV_neg (neg : Bool) (ds : List UInt8) (k : Int) : itemV neg ds k = ⟨(itemV false ds k).kind, neg, (itemV false ds k).d, (itemV false ds k).k, (itemV false ds k).big, (itemV false ds k).cut⟩ := by
  unfold itemV
  simp only
  split
  · rfl
  · split
    · rfl
    · split
      · rfl
      · split <;> rfl
theorem expV_bound (C : Nat) (t : List UInt8) : -(C : Int) ≤ expV C t ∧ expV C t ≤ (C : Int) := by
  have h : ∀ r, expM C r ≤ C := fun r => by unfold expM; omega
  match t with
  | [] => exact ⟨by show _ ≤ (0 : Int); omega, by show (0 : Int) ≤ _; omega⟩
  | [_] => exact ⟨by show _ ≤ (0 : Int); omega, by show (0 : Int) ≤ _; omega⟩
  | e :: c :: r =>
    have h1 := h r
    have h2 := h (c :: r)
    rw [expV_cons]
    split
    · omega
    · split <;> omega
theorem numDB_le (t : List UInt8) : (numD t).length ≤ t.length ∧ numB t ≤ t.length := by
  have hsp := congrArg List.length (span_split t)
  rw [List.length_append] at hsp
  by_cases hp : ∃ r, t.dropWhile isDig = 46 :: r
  · obtain ⟨r, e⟩ := hp
    obtain ⟨h1, h2, _⟩ := num_pt e
    have hsp2 := congrArg List.length (span_split r)
    rw [List.length_append] at hsp2
    rw [e, List.length_cons] at hsp
    rw [h1, h2, List.length_append]
    omega
  · obtain ⟨h1, h2, _⟩ := num_np (fun r e => hp ⟨r, e⟩)
    rw [h1, h2]
    omega
theorem numD_le (t : List UInt8) : (numD t).length ≤ t.length := (numDB_le t).1
theorem numB_le (t : List UInt8) : numB t ≤ t.length := (numDB_le t).2
end Go.Cal
namespace Go.Cal
theorem textS_plain {l : List UInt8} (h : ∀ t, l = 45 :: t → False) : textS l = bodyS l := by
  unfold textS
  split
  · rename_i t; exact (h t rfl).elim
  · rfl
theorem textV_plain {l : List UInt8} (C : Nat) (h : ∀ t, l = 45 :: t → False) : textV C l = bodyV C false l := by
  unfold textV
  split
  · rename_i t; exact (h t rfl).elim
  · rfl
theorem signs_text {l : List UInt8} (C : Nat) (h : ∀ t, l = 45 :: t → False) : (textS (45 :: l)).1 = (textS l).1 ∧ (textS (45 :: l)).2 = (textS l).2 + 1 ∧ textV C (45 :: l) = ⟨(textV C l).kind, true, (textV C l).d, (textV C l).k, (textV C l).big, (textV C l).cut⟩ := by
  rw [textS_plain h, textV_plain C h]
  refine ⟨rfl, rfl, ?_⟩
  show bodyV C true l = _
  unfold bodyV
  split
  · rfl
  · unfold itemV
    simp only
    split
    · rfl
    · split
      · rfl
      · split
        · rfl
        · split <;> rfl
/-- A word with more behind it is none. -/
theorem word_more (a b c : UInt8) (hw : [a, b, c] = wINF ∨ [a, b, c] = wNAN ∨ [a, b, c] = wNAR) (m : List UInt8) (hm : m ≠ []) : textS ([a, b, c] ++ m) = (false, 3) := by
  obtain ⟨x, r, rfl⟩ : ∃ x r, m = x :: r := by
    match m, hm with
    | x :: r, _ => exact ⟨x, r, rfl⟩
  have h45 : a ≠ 45 := by rcases hw with e | e | e <;> (injection e with e1; subst e1; decide)
  have hd : isDig a = false := by rcases hw with e | e | e <;> (injection e with e1; subst e1; decide)
  have hp : a ≠ 46 := by rcases hw with e | e | e <;> (injection e with e1; subst e1; decide)
  rw [textS_plain (fun t e => by injection e with e1 e2; exact h45 e1)]
  have hk : wordK ([a, b, c] ++ x :: r) = 0 := by
    unfold wordK wINF wNAN wNAR
    rw [if_neg (by simp), if_neg (by simp), if_neg (by simp)]
  have hn : wordN ([a, b, c] ++ x :: r) = 3 := by
    unfold wordN
    rcases hw with e | e | e
    · unfold wINF at e
      injection e with e1 e; injection e with e2 e; injection e with e3 e
      subst e1; subst e2; subst e3
      simp [lcp, wINF, wNAN, wNAR]
    · unfold wNAN at e
      injection e with e1 e; injection e with e2 e; injection e with e3 e
      subst e1; subst e2; subst e3
      simp [lcp, wINF, wNAN, wNAR]
    · unfold wNAR at e
      injection e with e1 e; injection e with e2 e; injection e with e3 e
      subst e1; subst e2; subst e3
      simp [lcp, wINF, wNAN, wNAR]
  unfold bodyS
  rw [if_neg (fun e => e hk), hn]
  show ((numS (a :: ([b, c] ++ x :: r))).1, max 3 (numS (a :: ([b, c] ++ x :: r))).2) = _
  rw [numS_other hd hp]
  rfl
/-- The place where no text goes on. -/
theorem text_place (l : List UInt8) (h : (textS l).1 = false) : (textS l).2 ≤ l.length ∧ (∃ e ∈ endL, (textS (l.take (textS l).2 ++ e)).1 = true) ∧
    ((textS l).2 < l.length → ∀ e, (textS (l.take ((textS l).2 + 1) ++ e)).1 = false ∧ (textS (l.take ((textS l).2 + 1) ++ e)).2 = (textS l).2) := by
  obtain ⟨h1, h2⟩ := outA_text l
  have h0 : (outA 0 l).1 = false := by rw [h1, h]
  rw [← h2 h0]
  refine ⟨outA_le 0 l, ?_, fun hl e => ?_⟩
  · obtain ⟨e, he, hg⟩ := place_goes 0 l (by decide) h0
    exact ⟨e, he, by rw [← (outA_text _).1]; exact hg⟩
  · have hd := place_dead 0 l e h0 hl
    obtain ⟨g1, g2⟩ := outA_text (l.take ((outA 0 l).2 + 1) ++ e)
    have hf : (outA 0 (l.take ((outA 0 l).2 + 1) ++ e)).1 = false := by rw [hd]
    rw [← g1, ← g2 hf, hd]
    exact ⟨rfl, rfl⟩
end Go.Cal
namespace Go.Cal
theorem trLR_head {l : List UInt8} (h : trR (trL l) ≠ []) : (trR (trL l)).head? ≠ some 48 := by
  obtain ⟨s, hs⟩ := trR_prefix (trL l)
  have h1 := trL_head l
  rw [← hs] at h1
  match hb : trR (trL l), h with
  | c :: r, _ =>
    rw [hb] at h1
    simpa using h1
theorem trLR_digs {l : List UInt8} (hd : ∀ c ∈ l, isDig c = true) : ∀ c ∈ trR (trL l), isDig c = true := fun c hc =>
  hd c ((trL_suffix l).subset ((trR_prefix _).subset hc))
theorem one_digit {l : List UInt8} (h : l.head? ≠ some 48) : l.head? = some 48 → l.length = 1 := fun e => absurd e h
/-- The bounds of a number. -/
structure Bnd (x : Item) (neg : Bool) : Prop where
  neg : x.neg = neg
  zero : x.d = 0 → x.k = 0 ∧ x.cut = false ∧ (x.kind = 1 ∨ x.big = 0)
  kind : 1 ≤ x.kind ∧ x.kind ≤ 4
  some : x.d ≠ 0 → x.kind = 1 ∧ x.big = 0 ∧ ∃ r c, Lib.decDigits x.d = r ++ [c] ∧ c ≠ 48 ∧ r.length + 1 ≤ 1991 ∧ (r.length + 1 = 1991 ↔ x.cut = true) ∧ (r.length : Int) + 1 + x.k ≤ 1000 ∧ -1000 < (r.length : Int) + 1 + x.k
theorem snoc_of {l : List UInt8} (h : l ≠ []) : ∃ r c, l = r ++ [c] := ⟨l.dropLast, l.getLast h, (List.dropLast_concat_getLast h).symm⟩
theorem itemV_bnd (neg : Bool) (ds : List UInt8) (hd : ∀ c ∈ ds, isDig c = true) (k : Int) : Bnd (itemV neg ds k) neg := by
  have hb1 := trLR_digs hd
  have hb2 := trR_last (trL ds)
  have hb3 := trLR_head (l := ds)
  unfold itemV
  simp only
  generalize trR (trL ds) = b at hb1 hb2 hb3
  generalize k + (((trL ds).length : Int) - (b.length : Int)) = k1
  by_cases h0 : b = []
  · rw [if_pos h0]
    exact ⟨rfl, fun _ => ⟨rfl, rfl, .inl rfl⟩, ⟨by show 1 ≤ 1; omega, by show 1 ≤ 4; omega⟩, fun h => absurd rfl h⟩
  · rw [if_neg h0]
    have h3 := hb3 h0
    by_cases h1 : 1000 ≤ (b.length : Int) + k1 - 1
    · rw [if_pos h1]
      exact ⟨rfl, fun _ => ⟨rfl, rfl, .inl rfl⟩, ⟨by show 1 ≤ 1; omega, by show 1 ≤ 4; omega⟩, fun h => absurd rfl h⟩
    · rw [if_neg h1]
      by_cases h2 : (b.length : Int) + k1 - 1 < -1000
      · rw [if_pos h2]
        exact ⟨rfl, fun _ => ⟨rfl, rfl, .inl rfl⟩, ⟨by show 1 ≤ 1; omega, by show 1 ≤ 4; omega⟩, fun h => absurd rfl h⟩
      · rw [if_neg h2]
        by_cases h4 : 1990 < b.length
        · rw [if_pos h4]
          have hh : (b.take 1990 ++ [49]).head? ≠ some 48 := by
            match b, h0, h3 with
            | c :: r, _, h3 => simpa using h3
          have hdec : Lib.decDigits (numV (b.take 1990 ++ [49])) = b.take 1990 ++ [49] := dec_numV (by simp) (fun c hc => by
            rcases List.mem_append.1 hc with h | h
            · exact hb1 c (List.mem_of_mem_take h)
            · rw [List.mem_singleton.1 h]; decide) (one_digit hh)
          have hl : (b.take 1990).length = 1990 := by rw [List.length_take]; omega
          refine ⟨rfl, fun e => ?_, ⟨by show 1 ≤ 1; omega, by show 1 ≤ 4; omega⟩, fun _ => ⟨rfl, rfl, _, _, hdec, by decide, ?_, ?_, ?_, ?_⟩⟩
          · have e' : numV (b.take 1990 ++ [49]) = 0 := e
            rw [e', dec_small (by decide)] at hdec
            have := congrArg List.length hdec
            rw [List.length_append, hl] at this
            simp at this
          · omega
          · rw [hl]; simp
          · show _ + 1 + (k1 + ((b.length : Int) - 1991)) ≤ 1000
            rw [hl]; omega
          · show _ < _ + 1 + (k1 + ((b.length : Int) - 1991))
            rw [hl]; omega
        · rw [if_neg h4]
          have hdec : Lib.decDigits (numV b) = b := dec_numV h0 hb1 (one_digit h3)
          obtain ⟨r, c, hrc⟩ := snoc_of h0
          have hl : b.length = r.length + 1 := by rw [hrc, List.length_append]; rfl
          have hc : c ≠ 48 := fun e => hb2 (by rw [hrc, e]; simp)
          refine ⟨rfl, fun e => ?_, ⟨by show 1 ≤ 1; omega, by show 1 ≤ 4; omega⟩, fun _ => ⟨rfl, rfl, r, c, hdec.trans hrc, hc, by omega, ?_, ?_, ?_⟩⟩
          · have e' : numV b = 0 := e
            rw [e', dec_small (by decide)] at hdec
            rw [← hdec] at h3
            exact absurd rfl h3
          · show _ ↔ false = true
            simp; omega
          · show _ + 1 + k1 ≤ 1000
            omega
          · show _ < _ + 1 + k1
            omega
theorem wordK_le (t : List UInt8) : wordK t ≤ 4 := by
  unfold wordK
  split
  · omega
  · split
    · omega
    · split <;> omega
theorem bodyV_bnd (C : Nat) (neg : Bool) (t : List UInt8) : Bnd (bodyV C neg t) neg := by
  have h4 := wordK_le t
  unfold bodyV
  by_cases h : wordK t ≠ 0
  · rw [if_pos h]
    exact ⟨rfl, fun _ => ⟨rfl, rfl, .inr rfl⟩, ⟨by show 1 ≤ wordK t; omega, h4⟩, fun h => absurd rfl h⟩
  · rw [if_neg h]
    exact itemV_bnd _ _ (numD_digs t) _
/-- What is told is within what may be. -/
theorem textV_bnd (C : Nat) (l : List UInt8) : Bnd (textV C l) (l.head? == some 45) := by
  unfold textV
  split
  · exact bodyV_bnd C true _
  · rename_i hne
    have : (l.head? == some 45) = false := by
      match l, hne with
      | [], _ => rfl
      | c :: r, hne =>
        have : c ≠ 45 := fun e => hne r (by rw [e])
        simpa using this
    rw [this]
    exact bodyV_bnd C false l
/-- A number as text. -/
def numT (n : Int) : List UInt8 := if n < 0 then 45 :: Lib.decDigits n.natAbs else Lib.decDigits n.natAbs
theorem expT_num {e : UInt8} (he : e = 101 ∨ e = 69) (n : Int) : ExpT (e :: numT n) := by
  unfold numT
  split
  · exact ExpT.sign he (.inr rfl) (dec_digs _) (dec_ne _)
  · exact ExpT.plain he (dec_digs _) (dec_ne _)
theorem expV_num {C : Nat} (e : UInt8) (n : Int) (h : n.natAbs ≤ C) : expV C (e :: numT n) = n := by
  unfold numT
  split
  · rw [expV_less (dec_digs _), numV_dec]
    omega
  · rw [expV_plain (dec_digs _) (dec_ne _), numV_dec]
    omega
theorem dig_cons {c : UInt8} {l : List UInt8} (h : isDig c = true) (hl : ∀ x ∈ l, isDig x = true) : ∀ x ∈ c :: l, isDig x = true := fun x hx => by
  rcases List.mem_cons.1 hx with rfl | hx
  · exact h
  · exact hl x hx
/-- Digits, the last one no nought. -/
theorem trL_same (S : List UInt8) : trL (S ++ [55]) ≠ [] := by
  intro h
  have := trL_all h
  have h2 : (55 : UInt8) ∈ List.replicate (S ++ [55]).length 48 := by rw [← this]; simp
  exact absurd (List.eq_of_mem_replicate h2) (by decide)
theorem trLR_same (S : List UInt8) : trR (trL (S ++ [55])) = trL (S ++ [55]) := trR_self (by
  obtain ⟨p, hp⟩ := trL_suffix (S ++ [55])
  have h0 := trL_same S
  obtain ⟨r, c, hrc⟩ := snoc_of h0
  rw [hrc] at hp ⊢
  have : c = 55 := by
    have e := congrArg List.getLast? hp
    rw [← List.append_assoc] at e
    simpa using e
  rw [this]; simp)
theorem trL_more (S : List UInt8) (m : Nat) : trL (S ++ [55] ++ List.replicate m 48) = trL (S ++ [55]) ++ List.replicate m 48 := trL_append (trL_same S)
/-- The digits, noughts behind them. -/
theorem item_same (S : List UInt8) (z m : Nat) (k : Int) : itemV false (List.replicate z 48 ++ (S ++ [55] ++ List.replicate m 48)) (k - m) = itemV false (S ++ [55]) k := by
  refine itemV_eq ?_ fun _ => ?_
  · rw [trL_zeros, trL_more, trR_zeros]
  · rw [trL_zeros, trL_more, List.length_append, List.length_replicate]
    omega
theorem item_same0 (S : List UInt8) (z : Nat) (k : Int) : itemV false (List.replicate z 48 ++ (S ++ [55])) k = itemV false (S ++ [55]) k := by
  refine itemV_eq ?_ fun _ => ?_
  · rw [trL_zeros]
  · rw [trL_zeros]
theorem numT_small (n : Int) (h : n.natAbs ≤ 1000000) : n.natAbs ≤ 1125899906842624 := by omega
def C50 : Nat := 1125899906842624
section Same
variable (S : List UInt8) (hS : ∀ c ∈ S, isDig c = true)
include hS
theorem same_digs : ∀ c ∈ S ++ [55], isDig c = true := dig_app hS (by decide)
theorem same_a (C : Nat) (x : Int) (h : x.natAbs ≤ C) : (textS (S ++ [55] ++ 101 :: numT x)).1 = true ∧ textV C (S ++ [55] ++ 101 :: numT x) = itemV false (S ++ [55]) x := by
  obtain ⟨n1, n2, n3, n4⟩ := num_plain (same_digs S hS) (by simp) (expT_num (.inl rfl) x)
  obtain ⟨t1, t2⟩ := text_pos n1 C
  refine ⟨t1, ?_⟩
  rw [t2, n2, n3, n4, expV_num _ _ h]
  congr 1
  omega
theorem same_b (C z m : Nat) (x : Int) (h : (x - m).natAbs ≤ C) : (textS (List.replicate z 48 ++ (S ++ [55] ++ List.replicate m 48) ++ 46 :: ([] ++ 101 :: numT (x - m)))).1 = true ∧ textV C (List.replicate z 48 ++ (S ++ [55] ++ List.replicate m 48) ++ 46 :: ([] ++ 101 :: numT (x - m))) = itemV false (S ++ [55]) x := by
  obtain ⟨n1, n2, n3, n4⟩ := num_point (d := List.replicate z 48 ++ (S ++ [55] ++ List.replicate m 48)) (d2 := []) (dig_app (dig_zero z) (dig_app (same_digs S hS) (dig_zero m))) (by simp) (.inl (by simp)) (expT_num (e := 101) (.inl rfl) (x - m))
  obtain ⟨t1, t2⟩ := text_pos n1 C
  refine ⟨t1, ?_⟩
  rw [t2, n2, n3, n4, expV_num _ _ h, List.append_nil, ← item_same S z m x]
  congr 1
  simp
theorem same_c (C m : Nat) (x : Int) (h : (x + m + (S ++ [55]).length).natAbs ≤ C) : (textS ([48] ++ 46 :: (List.replicate m 48 ++ (S ++ [55]) ++ 69 :: numT (x + m + (S ++ [55]).length)))).1 = true ∧ textV C ([48] ++ 46 :: (List.replicate m 48 ++ (S ++ [55]) ++ 69 :: numT (x + m + (S ++ [55]).length))) = itemV false (S ++ [55]) x := by
  obtain ⟨n1, n2, n3, n4⟩ := num_point (d := [48]) (d2 := List.replicate m 48 ++ (S ++ [55])) (by decide) (dig_app (dig_zero m) (same_digs S hS)) (.inl (by simp)) (expT_num (e := 69) (.inr rfl) (x + m + (S ++ [55]).length))
  obtain ⟨t1, t2⟩ := text_pos n1 C
  refine ⟨t1, ?_⟩
  rw [t2, n2, n3, n4, expV_num _ _ h, ← item_same0 S (m + 1) x]
  have e : [48] ++ (List.replicate m 48 ++ (S ++ [55])) = List.replicate (m + 1) 48 ++ (S ++ [55]) := by rw [List.replicate_succ]; rfl
  rw [e]
  congr 1
  rw [List.length_append («as» := List.replicate m 48), List.length_replicate]
  omega
theorem same_d (C m : Nat) (x : Int) (h : (x + (S ++ [55]).length).natAbs ≤ C) : (textS ([] ++ 46 :: ((S ++ [55] ++ List.replicate m 48) ++ 101 :: numT (x + (S ++ [55]).length)))).1 = true ∧ textV C ([] ++ 46 :: ((S ++ [55] ++ List.replicate m 48) ++ 101 :: numT (x + (S ++ [55]).length))) = itemV false (S ++ [55]) x := by
  obtain ⟨n1, n2, n3, n4⟩ := num_point (d := []) (d2 := S ++ [55] ++ List.replicate m 48) (by simp) (dig_app (same_digs S hS) (dig_zero m)) (.inr (by simp)) (expT_num (e := 101) (.inl rfl) (x + (S ++ [55]).length))
  obtain ⟨t1, t2⟩ := text_pos n1 C
  refine ⟨t1, ?_⟩
  rw [t2, n2, n3, n4, expV_num _ _ h, ← item_same S 0 m x]
  show itemV false ([] ++ _) _ = itemV false ([] ++ _) _
  congr 1
  rw [List.length_append (bs := List.replicate m 48), List.length_replicate]
  omega
omit hS in
theorem same_is (x : Int) (hS1 : S.length ≤ 100) : (itemV false (S ++ [55]) x).kind = 1 ∧ ((itemV false (S ++ [55]) x).big ≠ 0 ∨ (itemV false (S ++ [55]) x).k = x) := by
  have h1 := trL_same S
  have h2 := trLR_same S
  have h3 : (trL (S ++ [55])).length ≤ 101 := by
    have := (trL_suffix (S ++ [55])).length_le
    rw [List.length_append] at this
    simp at this
    omega
  unfold itemV
  simp only [h2]
  rw [if_neg h1]
  split
  · exact ⟨rfl, .inl (by decide)⟩
  · split
    · exact ⟨rfl, .inl (by decide)⟩
    · rw [if_neg (by omega)]
      exact ⟨rfl, .inr (by show x + _ = x; omega)⟩
end Same
/-- An exponent with noughts ahead. -/
theorem numV_zeros (z : Nat) (l : List UInt8) : numV (List.replicate z 48 ++ l) = numV l := by
  induction z with
  | zero => rfl
  | succ z ih => rw [List.replicate_succ, List.cons_append]; unfold numV at ih ⊢; rw [List.foldl_cons]; exact ih
section Case
variable (W P : List UInt8) (hW : ∀ c ∈ W, isDig c = true) (hP : ∀ c ∈ P, isDig c = true)
include hW hP
theorem case_num (C : Nat) (r : List UInt8) (hr : ExpT r) : (textS ((W ++ [48]) ++ 46 :: (P ++ r))).1 = true ∧ textV C ((W ++ [48]) ++ 46 :: (P ++ r)) = itemV false (W ++ [48] ++ P) (expV C r - (P.length : Int)) := by
  obtain ⟨n1, n2, n3, n4⟩ := num_point (d := W ++ [48]) (d2 := P) (dig_app hW (by decide)) hP (.inl (by simp)) hr
  obtain ⟨t1, t2⟩ := text_pos n1 C
  refine ⟨t1, ?_⟩
  rw [t2, n2, n3, n4]
theorem case_wide (C : Nat) (r : List UInt8) (hr : ExpT r) : (textS (([48, 48] ++ (W ++ [48])) ++ 46 :: ((P ++ [48, 48]) ++ r))).1 = true ∧ textV C (([48, 48] ++ (W ++ [48])) ++ 46 :: ((P ++ [48, 48]) ++ r)) = itemV false (W ++ [48] ++ P) (expV C r - (P.length : Int)) := by
  obtain ⟨n1, n2, n3, n4⟩ := num_point (d := [48, 48] ++ (W ++ [48])) (d2 := P ++ [48, 48]) (dig_app (by decide) (dig_app hW (by decide))) (dig_app hP (by decide)) (.inl (by simp)) hr
  obtain ⟨t1, t2⟩ := text_pos n1 C
  refine ⟨t1, ?_⟩
  rw [t2, n2, n3, n4]
  have e : [48, 48] ++ (W ++ [48]) ++ (P ++ [48, 48]) = List.replicate 2 48 ++ ((W ++ [48] ++ P) ++ List.replicate 2 48) := by simp [List.replicate]
  rw [e]
  by_cases h0 : trL (W ++ [48] ++ P) = []
  · have h1 : trL (List.replicate 2 48 ++ ((W ++ [48] ++ P) ++ List.replicate 2 48)) = [] := by
      rw [trL_zeros, trL_all h0, List.replicate_append_replicate]
      have := trL_zeros ((W ++ [48] ++ P).length + 2) []
      rw [List.append_nil] at this
      exact this
    refine itemV_eq (by rw [h0, h1]) fun h => ?_
    rw [h1] at h
    exact absurd rfl h
  · refine itemV_eq ?_ fun _ => ?_
    · rw [trL_zeros, trL_append h0, trR_zeros]
    · rw [trL_zeros, trL_append h0, List.length_append («as» := trL (W ++ [48] ++ P)), List.length_append («as» := P), List.length_replicate]
      simp
      omega
omit hW hP
theorem exp_plus {C : Nat} (z : Nat) (x : Nat) (h : x ≤ C) : ExpT (69 :: 43 :: (List.replicate z 48 ++ Lib.decDigits x)) ∧ expV C (69 :: 43 :: (List.replicate z 48 ++ Lib.decDigits x)) = x := by
  have hd := dig_app (dig_zero z) (dec_digs x)
  refine ⟨ExpT.sign (.inr rfl) (.inl rfl) hd (by simp [dec_ne]), ?_⟩
  rw [expV_plus hd, numV_zeros, numV_dec]
  omega
theorem exp_low {C : Nat} (z : Nat) (x : Nat) (h : x ≤ C) : ExpT (101 :: (List.replicate z 48 ++ Lib.decDigits x)) ∧ expV C (101 :: (List.replicate z 48 ++ Lib.decDigits x)) = x := by
  have hd := dig_app (dig_zero z) (dec_digs x)
  refine ⟨ExpT.plain (.inl rfl) hd (by simp [dec_ne]), ?_⟩
  rw [expV_plain hd (by simp [dec_ne]), numV_zeros, numV_dec]
  omega
theorem exp_less {C : Nat} {e : UInt8} (he : e = 101 ∨ e = 69) (z : Nat) (x : Nat) (h : x ≤ C) : ExpT (e :: 45 :: (List.replicate z 48 ++ Lib.decDigits x)) ∧ expV C (e :: 45 :: (List.replicate z 48 ++ Lib.decDigits x)) = -(x : Int) := by
  have hd := dig_app (dig_zero z) (dec_digs x)
  refine ⟨ExpT.sign he (.inr rfl) hd (by simp [dec_ne]), ?_⟩
  rw [expV_less hd, numV_zeros, numV_dec]
  omega
theorem item_kind (ds : List UInt8) (k : Int) : (itemV false ds k).kind = 1 := by
  unfold itemV
  simp only
  split
  · rfl
  · split
    · rfl
    · split
      · rfl
      · split <;> rfl
end Case
end Go.Cal
