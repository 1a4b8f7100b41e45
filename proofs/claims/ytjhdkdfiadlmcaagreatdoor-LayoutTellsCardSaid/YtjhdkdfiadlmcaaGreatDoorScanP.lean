/- Plain: what a text of a number is; the document's states. Conditions: none. -/
import Derived.Test.YtjhdkdfiadlmcaaGreatDoorDec
namespace Go.Cal
/-- The state behind a byte. -/
def nxt (st : Nat) (c : UInt8) : Nat :=
  if st < 2 ∧ (c = 45 ∨ c = 105 ∨ c = 110 ∨ c = 78 ∨ c = 46) then
    (if c = 45 then (if st = 0 then 1 else 99) else if c = 105 then 10 else if c = 110 then 20 else if c = 78 then 30 else 4)
  else if isDig c = true ∧ st ≤ 8 then
    (if st ≤ 2 then 2 else if st ≤ 5 then 5 else 8)
  else if st = 2 ∧ c = 46 then 3
  else if (st = 2 ∨ st = 3 ∨ st = 5) ∧ (c = 101 ∨ c = 69) then 6
  else if st = 6 ∧ (c = 43 ∨ c = 45) then 7
  else if (st = 10 ∧ c = 110) ∨ (st = 11 ∧ c = 102) ∨ (st = 20 ∧ c = 97) ∨ (st = 21 ∧ c = 110) ∨ (st = 30 ∧ c = 97) ∨ (st = 31 ∧ c = 82) then st + 1
  else 99
def over (st : Nat) : Bool := st == 2 || st == 3 || st == 5 || st == 8 || st == 12 || st == 22 || st == 32
/-- Is it a text, from a state on; and how many bytes go on. -/
def outA : Nat → List UInt8 → Bool × Nat
  | st, [] => (over st, 0)
  | st, c :: t => if nxt st c = 99 then (false, 0) else ((outA (nxt st c) t).1, (outA (nxt st c) t).2 + 1)
theorem outA_nil (st : Nat) : outA st [] = (over st, 0) := rfl
theorem outA_dead {st : Nat} {c : UInt8} (h : nxt st c = 99) (t : List UInt8) : outA st (c :: t) = (false, 0) := by rw [outA, if_pos h]
theorem outA_go {st st' : Nat} {c : UInt8} (h : nxt st c = st') (h' : st' ≠ 99) (t : List UInt8) : outA st (c :: t) = ((outA st' t).1, (outA st' t).2 + 1) := by
  subst h
  rw [outA, if_neg h']
/-- A run of digits that a state stays at. -/
theorem outA_run {st st' : Nat} (h0 : ∀ c, isDig c = true → nxt st c = st') (h1 : ∀ c, isDig c = true → nxt st' c = st') (h9 : st' ≠ 99) : ∀ (d t : List UInt8), (∀ c ∈ d, isDig c = true) → d ≠ [] → outA st (d ++ t) = ((outA st' t).1, (outA st' t).2 + d.length)
  | [], _, _, h => absurd rfl h
  | [c], t, hd, _ => by
    rw [List.singleton_append, outA_go (h0 c (hd c (by simp))) h9]; rfl
  | c :: c' :: d, t, hd, _ => by
    have ih := outA_run h1 h1 h9 (c' :: d) t (fun x hx => hd x (by simp [hx])) (by simp)
    rw [List.cons_append, outA_go (h0 c (hd c (by simp))) h9, ih]
    simp [Nat.add_assoc]
/-- Where a row of digits ends. -/
theorem span_split (t : List UInt8) : t.takeWhile isDig ++ t.dropWhile isDig = t := List.takeWhile_append_dropWhile
theorem take_digs (t : List UInt8) : ∀ c ∈ t.takeWhile isDig, isDig c = true := fun c hc => by
  induction t with
  | nil => simp at hc
  | cons x t ih =>
    by_cases h : isDig x = true
    · rw [List.takeWhile_cons_of_pos h] at hc
      rcases List.mem_cons.1 hc with rfl | hc
      · exact h
      · exact ih hc
    · rw [List.takeWhile_cons_of_neg h] at hc
      simp at hc
theorem drop_head (t : List UInt8) {c : UInt8} {r : List UInt8} (h : t.dropWhile isDig = c :: r) : isDig c = false := by
  induction t with
  | nil => simp at h
  | cons x t ih =>
    by_cases hx : isDig x = true
    · rw [List.dropWhile_cons_of_pos hx] at h; exact ih h
    · rw [List.dropWhile_cons_of_neg hx] at h
      injection h with h1 h2
      subst h1
      simpa using hx
/-- Behind an e, and its sign: the digits; how far it goes on. -/
def expN (t : List UInt8) : Bool × Nat := (!(t.takeWhile isDig).isEmpty && (t.dropWhile isDig).isEmpty, (t.takeWhile isDig).length)
/-- Behind an e. -/
def expE (t : List UInt8) : Bool × Nat :=
  match t with
  | [] => (false, 0)
  | c :: r => if c = 43 ∨ c = 45 then ((expN r).1, (expN r).2 + 1) else expN t
theorem expE_cons (c : UInt8) (r : List UInt8) : expE (c :: r) = if c = 43 ∨ c = 45 then ((expN r).1, (expN r).2 + 1) else expN (c :: r) := rfl
/-- Behind the digits. -/
def expS (t : List UInt8) : Bool × Nat :=
  match t with
  | [] => (true, 0)
  | c :: r => if c = 101 ∨ c = 69 then ((expE r).1, (expE r).2 + 1) else (false, 0)
theorem expS_cons (c : UInt8) (r : List UInt8) : expS (c :: r) = if c = 101 ∨ c = 69 then ((expE r).1, (expE r).2 + 1) else (false, 0) := rfl
/-- A number without a sign: is it one; how far it goes on. -/
def numS (t : List UInt8) : Bool × Nat :=
  match t.dropWhile isDig with
  | 46 :: r =>
    if (t.takeWhile isDig).isEmpty && (r.takeWhile isDig).isEmpty then (false, 1)
    else ((expS (r.dropWhile isDig)).1, (t.takeWhile isDig).length + 1 + (r.takeWhile isDig).length + (expS (r.dropWhile isDig)).2)
  | r => if (t.takeWhile isDig).isEmpty then (false, 0) else ((expS r).1, (t.takeWhile isDig).length + (expS r).2)
theorem nxt_dig2 {c : UInt8} (h : isDig c = true) : nxt 2 c = 2 := by simp [nxt, h]
theorem nxt_dig5 {c : UInt8} (h : isDig c = true) : nxt 5 c = 5 := by simp [nxt, h]
theorem nxt_dig8 {c : UInt8} (h : isDig c = true) : nxt 8 c = 8 := by simp [nxt, h]
theorem nxt_dig34 {c : UInt8} (h : isDig c = true) : nxt 3 c = 5 ∧ nxt 4 c = 5 := by simp [nxt, h]
theorem nxt_dig67 {c : UInt8} (h : isDig c = true) : nxt 6 c = 8 ∧ nxt 7 c = 8 := by simp [nxt, h]
theorem not_dig {c : UInt8} (h : isDig c = true) : c ≠ 45 ∧ c ≠ 105 ∧ c ≠ 110 ∧ c ≠ 78 ∧ c ≠ 46 ∧ c ≠ 101 ∧ c ≠ 69 ∧ c ≠ 43 ∧ c ≠ 97 ∧ c ≠ 102 ∧ c ≠ 82 := by
  refine ⟨?_, ?_, ?_, ?_, ?_, ?_, ?_, ?_, ?_, ?_, ?_⟩ <;> (rintro rfl; exact absurd h (by decide))
theorem nxt_dig01 {c : UInt8} (h : isDig c = true) : nxt 0 c = 2 ∧ nxt 1 c = 2 := by
  obtain ⟨h1, h2, h3, h4, h5, _⟩ := not_dig h
  simp [nxt, h, h1, h2, h3, h4, h5]
theorem outA_8 (t : List UInt8) : outA 8 t = ((t.dropWhile isDig).isEmpty, (t.takeWhile isDig).length) := by
  have key : ∀ r, (∀ c s, r = c :: s → isDig c = false) → outA 8 r = (r.isEmpty, 0) := fun r h => by
    match r with
    | [] => rfl
    | c :: s =>
      have := h c s rfl
      rw [outA_dead (by simp [nxt, this])]; rfl
  have hk := key (t.dropWhile isDig) (fun c s h => drop_head t h)
  conv => lhs; rw [← span_split t]
  by_cases h0 : t.takeWhile isDig = []
  · rw [h0, List.nil_append, hk]; rfl
  · rw [outA_run (fun c h => nxt_dig8 h) (fun c h => nxt_dig8 h) (by decide) _ _ (take_digs t) h0, hk]; simp
theorem outA_67 (st : Nat) (hst : st = 6 ∨ st = 7) (t : List UInt8) (hs : ∀ c r, t = c :: r → st = 6 → c ≠ 43 ∧ c ≠ 45) : outA st t = expN t := by
  have hd : ∀ c, isDig c = true → nxt st c = 8 := fun c h => by rcases hst with rfl | rfl <;> simp [nxt, h]
  have hn : over st = false := by rcases hst with rfl | rfl <;> rfl
  unfold expN
  by_cases h0 : t.takeWhile isDig = []
  · match t, h0 with
    | [], _ => rw [outA_nil, hn]; rfl
    | c :: r, h0 =>
      have hc : isDig c = false := by
        by_cases h : isDig c = true
        · rw [List.takeWhile_cons_of_pos h] at h0; cases h0
        · simpa using h
      have hs' := hs c r rfl
      rw [outA_dead (by rcases hst with rfl | rfl <;> simp [nxt, hc]; exact hs' rfl), h0]; rfl
  · have h8 := outA_8 (t.dropWhile isDig)
    have hdd : (t.dropWhile isDig).dropWhile isDig = t.dropWhile isDig ∧ (t.dropWhile isDig).takeWhile isDig = [] := by
      match hh : t.dropWhile isDig with
      | [] => exact ⟨rfl, rfl⟩
      | c :: s =>
        have := drop_head t hh
        exact ⟨List.dropWhile_cons_of_neg (by simp [this]), List.takeWhile_cons_of_neg (by simp [this])⟩
    rw [hdd.1, hdd.2] at h8
    conv => lhs; rw [← span_split t]
    rw [outA_run hd (fun c h => nxt_dig8 h) (by decide) _ _ (take_digs t) h0, h8]
    have : (t.takeWhile isDig).isEmpty = false := by simpa using h0
    simp [this]
theorem outA_6 (t : List UInt8) : outA 6 t = expE t := by
  match t with
  | [] => rfl
  | c :: r =>
    rw [expE_cons]
    by_cases h : c = 43 ∨ c = 45
    · rw [if_pos h]
      have hd : isDig c = false := by rcases h with rfl | rfl <;> decide
      rw [outA_go (st' := 7) (by rcases h with rfl | rfl <;> decide) (by decide), outA_67 7 (.inr rfl) r (fun _ _ _ e => absurd e (by decide))]
    · rw [if_neg h]
      exact outA_67 6 (.inl rfl) _ (fun c' r' e _ => by injection e with e1 e2; subst e1; exact ⟨fun e => h (.inl e), fun e => h (.inr e)⟩)
theorem outA_e (st : Nat) (hst : st = 2 ∨ st = 3 ∨ st = 5) (t : List UInt8) (hd : ∀ c r, t = c :: r → isDig c = false ∧ (st = 2 → c ≠ 46)) : outA st t = expS t := by
  match t with
  | [] => rcases hst with rfl | rfl | rfl <;> rfl
  | c :: r =>
    obtain ⟨h1, h2⟩ := hd c r rfl
    rw [expS_cons]
    by_cases h : c = 101 ∨ c = 69
    · rw [if_pos h, outA_go (st' := 6) (by rcases hst with rfl | rfl | rfl <;> rcases h with rfl | rfl <;> decide) (by decide), outA_6]
    · rw [if_neg h]
      rw [outA_dead]
      rcases hst with rfl | rfl | rfl
      · simp [nxt, h1, h2 rfl, h]
      · simp [nxt, h1, h]
      · simp [nxt, h1, h]
theorem outA_345 (st : Nat) (hst : st = 3 ∨ st = 4) (r : List UInt8) (h : st = 4 → r.takeWhile isDig ≠ []) : outA st r = ((expS (r.dropWhile isDig)).1, (r.takeWhile isDig).length + (expS (r.dropWhile isDig)).2) := by
  have hd : ∀ c, isDig c = true → nxt st c = 5 := fun c hc => by rcases hst with rfl | rfl <;> simp [nxt, hc]
  have hh : ∀ c s, r.dropWhile isDig = c :: s → isDig c = false := fun c s e => drop_head r e
  by_cases h0 : r.takeWhile isDig = []
  · rcases hst with rfl | rfl
    · have e : r.dropWhile isDig = r := by
        have := span_split r
        rwa [h0, List.nil_append] at this
      rw [h0, e, outA_e 3 (by simp) r (fun c s hcs => ⟨hh c s (by rw [e]; exact hcs), fun e => absurd e (by decide)⟩)]
      simp
    · exact absurd h0 (h rfl)
  · have h5 := outA_e 5 (by simp) (r.dropWhile isDig) (fun c s e => ⟨hh c s e, fun e => absurd e (by decide)⟩)
    conv => lhs; rw [← span_split r]
    rw [outA_run hd (fun c h => nxt_dig5 h) (by decide) _ _ (take_digs r) h0, h5, Nat.add_comm]
/-- A number, by states. -/
theorem outA_num (st : Nat) (hst : st = 0 ∨ st = 1) (t : List UInt8) (hd : ∀ c r, t = c :: r → c ≠ 105 ∧ c ≠ 110 ∧ c ≠ 78 ∧ c ≠ 45) : outA st t = numS t := by
  have hn : over st = false := by rcases hst with rfl | rfl <;> rfl
  have h2 : ∀ c, isDig c = true → nxt st c = 2 := fun c h => by rcases hst with rfl | rfl; exact (nxt_dig01 h).1; exact (nxt_dig01 h).2
  have hsp := span_split t
  have hdh : ∀ c s, t.dropWhile isDig = c :: s → isDig c = false := fun c s e => drop_head t e
  unfold numS
  by_cases h0 : t.takeWhile isDig = []
  · have e : t.dropWhile isDig = t := by rwa [h0, List.nil_append] at hsp
    rw [e]
    match t, hd, hdh, h0, e with
    | [], _, _, _, _ => rw [outA_nil, hn]; rfl
    | c :: r, hd, hdh, h0, e =>
      have hc := hdh c r e
      obtain ⟨d1, d2, d3, d4⟩ := hd c r rfl
      by_cases hp : c = 46
      · subst hp
        simp only [h0, List.isEmpty_nil, Bool.true_and, List.length_nil, Nat.zero_add]
        rw [outA_go (st := st) (st' := 4) (by rcases hst with rfl | rfl <;> decide) (by decide)]
        by_cases h1 : r.takeWhile isDig = []
        · rw [if_pos (by simp [h1])]
          match r, h1 with
          | [], _ => rfl
          | x :: s, h1 =>
            have hx : isDig x = false := by
              by_cases h : isDig x = true
              · rw [List.takeWhile_cons_of_pos h] at h1; cases h1
              · simpa using h
            rw [outA_dead (by simp [nxt, hx])]
        · rw [if_neg (by simpa using h1), outA_345 4 (.inr rfl) r (fun _ => h1)]
          exact Prod.ext rfl (by show _ + _ + 1 = 1 + _ + _; omega)
      · have : outA st (c :: r) = (false, 0) := outA_dead (by rcases hst with rfl | rfl <;> simp [nxt, hc, hp, d1, d2, d3, d4]) r
        rw [this]
        split
        · rename_i r' heq
          injection heq with e1 e2
          exact absurd e1 hp
        · simp [h0]
  · have hne : (t.takeWhile isDig).isEmpty = false := by simpa using h0
    conv => lhs; rw [← hsp]
    rw [outA_run h2 (fun c h => nxt_dig2 h) (by decide) _ _ (take_digs t) h0]
    match hr : t.dropWhile isDig with
    | [] => simp [hne, expS, outA, over]
    | c :: r =>
      have hc := hdh c r hr
      by_cases hp : c = 46
      · subst hp
        rw [outA_go (st := 2) (st' := 3) (by decide) (by decide), outA_345 3 (.inl rfl) r (fun e => absurd e (by decide))]
        simp only [hne, Bool.false_and]
        exact Prod.ext rfl (by show _ + _ + 1 + _ = _ + 1 + _ + _; omega)
      · rw [outA_e 2 (by simp) (c :: r) (fun c' r' e => by injection e with e1 e2; subst e1; exact ⟨hc, fun _ => hp⟩)]
        split
        · rename_i r' heq
          injection heq with e1 e2
          exact absurd e1 hp
        · simp [hne, Nat.add_comm]
end Go.Cal
