/- Plain: texts of numbers put together, and what they are worth. Conditions: none. -/
import Derived.Test.YtjhdkdfiadlmcaaGreatDoorScanV
namespace Go.Cal
/-- A row of bytes that begins with no digit. -/
def NoDig (r : List UInt8) : Prop := ∀ c s, r = c :: s → isDig c = false
theorem NoDig.nil : NoDig [] := fun c s e => by cases e
theorem NoDig.cons {c : UInt8} {r : List UInt8} (h : isDig c = false) : NoDig (c :: r) := fun c' s e => by injection e with e1 e2; subst e1; exact h
theorem span_app {d r : List UInt8} (hd : ∀ c ∈ d, isDig c = true) (hr : NoDig r) : (d ++ r).takeWhile isDig = d ∧ (d ++ r).dropWhile isDig = r := by
  induction d with
  | nil =>
    match r with
    | [] => exact ⟨rfl, rfl⟩
    | c :: s => exact ⟨List.takeWhile_cons_of_neg (by simp [hr c s rfl]), List.dropWhile_cons_of_neg (by simp [hr c s rfl])⟩
  | cons x d ih =>
    have hx := hd x (by simp)
    obtain ⟨h1, h2⟩ := ih (fun c hc => hd c (by simp [hc]))
    exact ⟨by rw [List.cons_append, List.takeWhile_cons_of_pos hx, h1], by rw [List.cons_append, List.dropWhile_cons_of_pos hx, h2]⟩
theorem dig_app {a b : List UInt8} (ha : ∀ c ∈ a, isDig c = true) (hb : ∀ c ∈ b, isDig c = true) : ∀ c ∈ a ++ b, isDig c = true := fun c hc => by
  rcases List.mem_append.1 hc with h | h
  · exact ha c h
  · exact hb c h
theorem dig_zero (m : Nat) : ∀ c ∈ List.replicate m (48 : UInt8), isDig c = true := fun c hc => by
  rw [List.eq_of_mem_replicate hc]; decide
/-- What is behind the digits: nothing, or an exponent. -/
structure ExpT (r : List UInt8) : Prop where
  ok : (expS r).1 = true
  head : ∀ c s, r = c :: s → c = 101 ∨ c = 69
theorem ExpT.noDig {r : List UInt8} (h : ExpT r) : NoDig r := fun c s e => by rcases h.head c s e with rfl | rfl <;> decide
theorem ExpT.nil : ExpT [] := ⟨rfl, fun c s e => by cases e⟩
theorem expN_digs {d : List UInt8} (hd : ∀ c ∈ d, isDig c = true) (h0 : d ≠ []) : (expN d).1 = true := by
  obtain ⟨h1, h2⟩ := span_app (r := []) hd .nil
  rw [List.append_nil] at h1 h2
  unfold expN
  rw [h1, h2]
  simpa using h0
/-- An exponent without a sign, with a plus, with a minus. -/
theorem ExpT.plain {e : UInt8} (he : e = 101 ∨ e = 69) {d : List UInt8} (hd : ∀ c ∈ d, isDig c = true) (h0 : d ≠ []) : ExpT (e :: d) := by
  refine ⟨?_, fun c s h => by injection h with h1 h2; subst h1; exact he⟩
  rw [expS_cons, if_pos he]
  show (expE d).1 = true
  match d, h0 with
  | x :: d, _ =>
    have hx := not_dig (hd x (by simp))
    rw [expE_cons, if_neg (by rintro (rfl | rfl); exact hx.2.2.2.2.2.2.2.1 rfl; exact hx.1 rfl)]
    exact expN_digs hd (by simp)
theorem ExpT.sign {e s : UInt8} (he : e = 101 ∨ e = 69) (hs : s = 43 ∨ s = 45) {d : List UInt8} (hd : ∀ c ∈ d, isDig c = true) (h0 : d ≠ []) : ExpT (e :: s :: d) := by
  refine ⟨?_, fun c s h => by injection h with h1 h2; subst h1; exact he⟩
  rw [expS_cons, if_pos he]
  show (expE (s :: d)).1 = true
  rw [expE_cons, if_pos hs]
  exact expN_digs hd h0
theorem take_all {d : List UInt8} (hd : ∀ c ∈ d, isDig c = true) : d.takeWhile isDig = d := by
  have := (span_app (r := []) hd .nil).1
  rwa [List.append_nil] at this
theorem expV_cons (C : Nat) (e c : UInt8) (r : List UInt8) : expV C (e :: c :: r) = if c = 45 then -(expM C r : Int) else if c = 43 then (expM C r : Int) else (expM C (c :: r) : Int) := rfl
theorem expV_plain {C : Nat} {e : UInt8} {d : List UInt8} (hd : ∀ c ∈ d, isDig c = true) (h0 : d ≠ []) : expV C (e :: d) = (min (numV d) C : Nat) := by
  match d, h0 with
  | x :: d, _ =>
    have hx := not_dig (hd x (by simp))
    rw [expV_cons, if_neg hx.1, if_neg hx.2.2.2.2.2.2.2.1]
    unfold expM
    rw [take_all hd]
theorem expV_plus {C : Nat} {e : UInt8} {d : List UInt8} (hd : ∀ c ∈ d, isDig c = true) : expV C (e :: 43 :: d) = (min (numV d) C : Nat) := by
  rw [expV_cons, if_neg (by decide), if_pos rfl]
  unfold expM
  rw [take_all hd]
theorem expV_less {C : Nat} {e : UInt8} {d : List UInt8} (hd : ∀ c ∈ d, isDig c = true) : expV C (e :: 45 :: d) = -((min (numV d) C : Nat) : Int) := by
  rw [expV_cons, if_pos rfl]
  unfold expM
  rw [take_all hd]
/-- Digits, and what is behind them. -/
theorem num_plain {d r : List UInt8} (hd : ∀ c ∈ d, isDig c = true) (h0 : d ≠ []) (hr : ExpT r) : (numS (d ++ r)).1 = true ∧ numD (d ++ r) = d ∧ numB (d ++ r) = 0 ∧ numR (d ++ r) = r := by
  obtain ⟨h1, h2⟩ := span_app hd hr.noDig
  have hne : d.isEmpty = false := by simpa using h0
  have hp : ∀ s, r = 46 :: s → False := fun s e => by rcases hr.head 46 s e with h | h <;> exact absurd h (by decide)
  unfold numS numD numB numR
  rw [h2]
  match r, hr, hp with
  | [], _, _ =>
    rw [List.append_nil] at h1 ⊢
    simp [h1, h0, expS]
  | c :: s, hr, hp =>
    have hc : c ≠ 46 := fun e => hp s (by rw [e])
    refine ⟨?_, ?_, ?_, ?_⟩
    · split
      · rename_i s' e; injection e with e1 e2; exact absurd e1 hc
      · rw [h1, hne]; simpa using hr.ok
    · split
      · rename_i s' e; injection e with e1 e2; exact absurd e1 hc
      · exact h1
    · split
      · rename_i s' e; injection e with e1 e2; exact absurd e1 hc
      · rfl
    · split
      · rename_i s' e; injection e with e1 e2; exact absurd e1 hc
      · rfl
/-- Digits, a point, digits, and what is behind them. -/
theorem num_point {d d2 r : List UInt8} (hd : ∀ c ∈ d, isDig c = true) (hd2 : ∀ c ∈ d2, isDig c = true) (h0 : d ≠ [] ∨ d2 ≠ []) (hr : ExpT r) :
    (numS (d ++ 46 :: (d2 ++ r))).1 = true ∧ numD (d ++ 46 :: (d2 ++ r)) = d ++ d2 ∧ numB (d ++ 46 :: (d2 ++ r)) = d2.length ∧ numR (d ++ 46 :: (d2 ++ r)) = r := by
  obtain ⟨h1, h2⟩ := span_app (r := 46 :: (d2 ++ r)) hd (.cons (by decide))
  obtain ⟨h3, h4⟩ := span_app hd2 hr.noDig
  unfold numS numD numB numR
  rw [h2]
  simp only [h1, h3, h4]
  refine ⟨?_, by trivial⟩
  rw [if_neg]
  · exact hr.ok
  · rcases h0 with h | h <;> simp [h]
/-- The same digits but for noughts at the ends, the exponent with them: the same number. -/
theorem itemV_eq {neg : Bool} {d1 d2 : List UInt8} {k1 k2 : Int} (h : trR (trL d1) = trR (trL d2)) (hk : trR (trL d1) ≠ [] → k1 + (trL d1).length = k2 + (trL d2).length) : itemV neg d1 k1 = itemV neg d2 k2 := by
  unfold itemV
  simp only
  rw [h]
  by_cases h0 : trR (trL d2) = []
  · rw [if_pos h0, if_pos h0]
  · have := hk (by rw [h]; exact h0)
    have e : k1 + (((trL d1).length : Int) - ((trR (trL d2)).length : Int)) = k2 + (((trL d2).length : Int) - ((trR (trL d2)).length : Int)) := by omega
    rw [e]
theorem trL_zeros (m : Nat) (l : List UInt8) : trL (List.replicate m 48 ++ l) = trL l := by
  induction m with
  | zero => rfl
  | succ m ih => rw [List.replicate_succ, List.cons_append]; unfold trL; rw [List.dropWhile_cons_of_pos (by decide)]; exact ih
theorem trL_zero (l : List UInt8) : trL (48 :: l) = trL l := trL_zeros 1 l
theorem trR_zeros (m : Nat) (l : List UInt8) : trR (l ++ List.replicate m 48) = trR l := by
  unfold trR
  rw [List.reverse_append, List.reverse_replicate]
  have := trL_zeros m l.reverse
  unfold trL at this
  rw [this]
theorem trR_self {l : List UInt8} (h : l.getLast? ≠ some 48) : trR l = l := by
  unfold trR
  have : l.reverse.dropWhile (· == 48) = l.reverse := by
    match hl : l.reverse with
    | [] => rfl
    | x :: s =>
      have : l.getLast? = some x := by
        rw [← List.reverse_reverse l, List.getLast?_reverse, hl]; rfl
      rw [List.dropWhile_cons_of_neg]
      intro e
      rw [this] at h
      exact h (by simpa using e)
  rw [this, List.reverse_reverse]
/-- Noughts behind a row that has another digit stay behind it. -/
theorem trL_append {l m : List UInt8} (h : trL l ≠ []) : trL (l ++ m) = trL l ++ m := by
  induction l with
  | nil => exact absurd rfl h
  | cons x l ih =>
    by_cases hx : x = 48
    · subst hx
      rw [trL_zero] at h ⊢
      rw [List.cons_append, trL_zero]
      exact ih h
    · have e : ∀ r : List UInt8, trL (x :: r) = x :: r := fun r => List.dropWhile_cons_of_neg (by simpa using hx)
      rw [List.cons_append, e, e]; rfl
theorem trL_all {l : List UInt8} (h : trL l = []) : l = List.replicate l.length 48 := by
  induction l with
  | nil => rfl
  | cons x l ih =>
    by_cases hx : x = 48
    · subst hx
      rw [trL_zero] at h
      rw [List.length_cons, List.replicate_succ, ← ih h]
    · have e : trL (x :: l) = x :: l := List.dropWhile_cons_of_neg (by simpa using hx)
      rw [e] at h; cases h
theorem numS_head {t : List UInt8} (h : (numS t).1 = true) : ∃ c r, t = c :: r ∧ (isDig c = true ∨ c = 46) := by
  match t with
  | [] => exact absurd h (by decide)
  | c :: r =>
    refine ⟨c, r, rfl, ?_⟩
    by_cases h1 : isDig c = true
    · exact .inl h1
    · by_cases h2 : c = 46
      · exact .inr h2
      · rw [numS_other (by simpa using h1) h2] at h; cases h
theorem body_num {t : List UInt8} (h : (numS t).1 = true) (C : Nat) (neg : Bool) : (bodyS t).1 = true ∧ bodyV C neg t = itemV neg (numD t) (expV C (numR t) - (numB t : Int)) := by
  obtain ⟨c, r, rfl, hc⟩ := numS_head h
  have hk : wordK (c :: r) = 0 := by
    unfold wordK wINF wNAN wNAR
    rcases hc with hc | rfl
    · have := not_dig hc
      rw [if_neg (by simp [this.2.1]), if_neg (by simp [this.2.2.1]), if_neg (by simp [this.2.2.2.1])]
    · rw [if_neg (by simp), if_neg (by simp), if_neg (by simp)]
  unfold bodyS bodyV
  rw [if_neg (by simp [hk]), if_neg (by simp [hk])]
  exact ⟨h, rfl⟩
theorem text_pos {t : List UInt8} (h : (numS t).1 = true) (C : Nat) : (textS t).1 = true ∧ textV C t = itemV false (numD t) (expV C (numR t) - (numB t : Int)) := by
  obtain ⟨h1, h2⟩ := body_num h C false
  obtain ⟨c, r, rfl, hc⟩ := numS_head h
  have h45 : c ≠ 45 := by rcases hc with hc | rfl; exact (not_dig hc).1; decide
  unfold textS textV
  constructor
  · split
    · rename_i e; injection e with e1 e2; exact absurd e1 h45
    · exact h1
  · split
    · rename_i e; injection e with e1 e2; exact absurd e1 h45
    · exact h2
theorem text_neg {t : List UInt8} (h : (numS t).1 = true) (C : Nat) : (textS (45 :: t)).1 = true ∧ textV C (45 :: t) = itemV true (numD t) (expV C (numR t) - (numB t : Int)) := by
  obtain ⟨h1, h2⟩ := body_num h C true
  exact ⟨h1, h2⟩
end Go.Cal
