/- Plain numbers: decimal numerals by chunks, and what rows of digits are worth. Conditions: none. -/
/- Plain: what a text of a number is; the document's states. Conditions: none. -/
/- Plain: words among texts; the whole of a text, by states and by parts. Conditions: none. -/
/- Plain: what a text of a number is worth; where no text goes on. Conditions: none. -/
/- Plain: texts of numbers put together, and what they are worth. Conditions: none. -/
/- Plain: bounds of what is told; texts that are one number. Conditions: none. -/
/- Plain: how digits are written, and what digits a text has (chapter 12). Conditions: none. -/
/- Plain: how digits are written, and what digits a text has, second part. Conditions: none. -/
import Derived.Test.YtncfbleeidjflaaGreatDoorPz00
import Derived.Lib.ItoaNum
import Derived.Lib.Repeat
import Derived.Lib.Join
import Derived.Lib.IndexMore
import Derived.Lib.AtoiAllCases
namespace Go.Cal
open Go.Lib
theorem dec_small {u : Nat} (h : u < 10) : decDigits u = [UInt8.ofNat (48 + u)] := by rw [decDigits, dif_pos h]
theorem dec_big {u : Nat} (h : ¬ u < 10) : decDigits u = decDigits (u / 10) ++ [UInt8.ofNat (48 + u % 10)] := by rw [decDigits, dif_neg h]
def padd : Nat → Nat → List UInt8
  | 0, _ => []
  | k + 1, r => padd k (r / 10) ++ [UInt8.ofNat (48 + r % 10)]
theorem dec_padd : ∀ (k q r : Nat), 1 ≤ q → r < 10 ^ k → decDigits (q * 10 ^ k + r) = decDigits q ++ padd k r
  | 0, q, r, _, hr => by
    have : r = 0 := by simpa using hr
    subst this
    simp [padd]
  | k + 1, q, r, hq, hr => by
    have hp : 1 ≤ 10 ^ k := Nat.one_le_pow _ _ (by decide)
    rw [Nat.pow_succ] at hr
    have hq1 : 1 * 10 ^ k ≤ q * 10 ^ k := Nat.mul_le_mul_right _ hq
    have e1 : q * 10 ^ (k + 1) = q * 10 ^ k * 10 := by rw [Nat.pow_succ, Nat.mul_assoc]
    rw [e1, dec_big (by omega), show (q * 10 ^ k * 10 + r) / 10 = q * 10 ^ k + r / 10 by omega, show (q * 10 ^ k * 10 + r) % 10 = r % 10 by omega,
      dec_padd k q (r / 10) hq (by omega), padd, List.append_assoc]
theorem padd_zero : ∀ k, padd k 0 = List.replicate k 48
  | 0 => rfl
  | k + 1 => by
    rw [padd, show 0 / 10 = 0 from rfl, padd_zero k, List.replicate_succ']
    rfl
theorem padd_dec : ∀ (k r : Nat), 1 ≤ k → r < 10 ^ k → padd k r = List.replicate (k - (decDigits r).length) 48 ++ decDigits r ∧ (decDigits r).length ≤ k
  | 0, r, h, _ => by omega
  | k + 1, r, _, hr => by
    by_cases h : r < 10
    · rw [dec_small h, padd, show r / 10 = 0 by omega, padd_zero, Nat.mod_eq_of_lt h]
      simp
    · have hk : 1 ≤ k := by
        rcases Nat.eq_zero_or_pos k with h0 | h0
        · subst h0; simp at hr; omega
        · exact h0
      rw [Nat.pow_succ] at hr
      obtain ⟨h1, h2⟩ := padd_dec k (r / 10) hk (by omega)
      rw [dec_big h, padd, h1]
      simp only [List.length_append, List.length_singleton]
      refine ⟨?_, by omega⟩
      rw [List.append_assoc, show k + 1 - ((decDigits (r / 10)).length + 1) = k - (decDigits (r / 10)).length by omega]
/-- The numeral, by a chunk of k digits. -/
theorem dec_chunk {q r k : Nat} (hq : 1 ≤ q) (hk : 1 ≤ k) (hr : r < 10 ^ k) : decDigits (q * 10 ^ k + r) = decDigits q ++ (List.replicate (k - (decDigits r).length) 48 ++ decDigits r) := by
  rw [dec_padd k q r hq hr, (padd_dec k r hk hr).1]
theorem repeat_one (c : Nat) : repeatL [48] c = List.replicate c 48 := by
  induction c with
  | zero => rfl
  | succ c ih => rw [repeatL, ih]; rfl
/-- What a row of digits is worth. -/
def numV (l : List UInt8) : Nat := l.foldl (fun n c => n * 10 + (c.toNat - 48)) 0
theorem numV_snoc (l : List UInt8) (c : UInt8) : numV (l ++ [c]) = numV l * 10 + (c.toNat - 48) := by simp [numV, List.foldl_append]
theorem foldl_numV (l : List UInt8) (n : Nat) : l.foldl (fun n (c : UInt8) => n * 10 + (c.toNat - 48)) n = n * 10 ^ l.length + numV l := by
  induction l generalizing n with
  | nil => simp [numV]
  | cons c l ih =>
    have e : numV (c :: l) = (c.toNat - 48) * 10 ^ l.length + numV l := by
      show List.foldl _ (0 * 10 + (c.toNat - 48)) l = _
      rw [ih, Nat.zero_mul, Nat.zero_add]
    rw [List.foldl_cons, ih, e, List.length_cons, Nat.pow_succ, Nat.add_mul, Nat.mul_assoc, Nat.mul_comm 10, Nat.add_assoc]
theorem numV_append (l m : List UInt8) : numV (l ++ m) = numV l * 10 ^ m.length + numV m := by
  conv => lhs; rw [numV, List.foldl_append]
  exact foldl_numV m _
theorem digit_toNat {d : Nat} (h : d < 10) : (UInt8.ofNat (48 + d)).toNat = 48 + d := by
  rw [UInt8.toNat_ofNat']; omega
theorem numV_dec (u : Nat) : numV (decDigits u) = u := by
  induction u using Nat.strongRecOn with
  | _ u ih =>
    by_cases h : u < 10
    · rw [dec_small h]
      show 0 * 10 + ((UInt8.ofNat (48 + u)).toNat - 48) = u
      rw [digit_toNat h]; omega
    · rw [dec_big h, numV_snoc, ih (u / 10) (by omega), digit_toNat (Nat.mod_lt _ (by omega))]
      omega
/-- Is a byte a digit? -/
def isDig (c : UInt8) : Bool := 48 ≤ c.toNat && c.toNat ≤ 57
theorem isDig_ofNat {d : Nat} (h : d < 10) : isDig (UInt8.ofNat (48 + d)) = true := by unfold isDig; rw [digit_toNat h]; simp; omega
theorem dec_digs (u : Nat) : ∀ c ∈ decDigits u, isDig c = true := by
  induction u using Nat.strongRecOn with
  | _ u ih =>
    by_cases h : u < 10
    · rw [dec_small h]; intro c hc; rw [List.mem_singleton] at hc; subst hc; exact isDig_ofNat h
    · rw [dec_big h]
      intro c hc
      rcases List.mem_append.1 hc with hc | hc
      · exact ih (u / 10) (by omega) c hc
      · rw [List.mem_singleton] at hc; subst hc; exact isDig_ofNat (Nat.mod_lt _ (by omega))
theorem dec_ne (u : Nat) : decDigits u ≠ [] := by
  by_cases h : u < 10
  · rw [dec_small h]; simp
  · rw [dec_big h]; simp
theorem dec_head {u : Nat} (h : 0 < u) : (decDigits u).head? ≠ some 48 := by
  induction u using Nat.strongRecOn with
  | _ u ih =>
    by_cases h1 : u < 10
    · rw [dec_small h1]
      intro e
      have e2 : UInt8.ofNat (48 + u) = 48 := by simpa using e
      have := digit_toNat h1
      rw [e2] at this
      simp at this; omega
    · rw [dec_big h1]
      have := ih (u / 10) (by omega) (by omega)
      have h2 := dec_ne (u / 10)
      match he : decDigits (u / 10) with
      | [] => exact absurd he h2
      | x :: l => rw [he] at this; simpa using this
/-- A row of digits without noughts ahead is the numeral of what it is worth. -/
theorem dec_numV {l : List UInt8} (h0 : l ≠ []) (hd : ∀ c ∈ l, isDig c = true) (hh : l.head? = some 48 → l.length = 1) : decDigits (numV l) = l := by
  induction hn : l.length generalizing l with
  | zero => exact absurd (List.eq_nil_of_length_eq_zero hn) h0
  | succ n ih =>
    obtain ⟨m, c, rfl⟩ : ∃ m c, l = m ++ [c] := ⟨l.dropLast, l.getLast h0, (List.dropLast_concat_getLast h0).symm⟩
    have hc := hd c (by simp)
    simp only [isDig, Bool.and_eq_true, decide_eq_true_eq] at hc
    have hc2 : UInt8.ofNat (48 + (c.toNat - 48)) = c := by rw [show 48 + (c.toNat - 48) = c.toNat by omega]; simp
    rw [numV_snoc]
    by_cases hm : m = []
    · subst hm
      rw [show numV [] = 0 from rfl, Nat.zero_mul, Nat.zero_add, dec_small (by omega), hc2]; rfl
    · have hml : 0 < m.length := List.length_pos_iff.2 hm
      have hhm : m.head? ≠ some 48 := by
        intro e
        have := hh (by cases m with | nil => exact absurd rfl hm | cons x m => simpa using e)
        rw [List.length_append, List.length_singleton] at this; omega
      have ihm := ih hm (fun c hc => hd c (by simp [hc])) (fun e => absurd e hhm) (by simp at hn; omega)
      have hpos : 0 < numV m := by
        rcases Nat.eq_zero_or_pos (numV m) with h | h
        · rw [h, dec_small (by omega)] at ihm
          rw [← ihm] at hhm
          exact absurd rfl hhm
        · exact h
      rw [dec_big (by omega), show (numV m * 10 + (c.toNat - 48)) / 10 = numV m by omega, ihm, show (numV m * 10 + (c.toNat - 48)) % 10 = c.toNat - 48 by omega, hc2]
/-- What Join makes of rows that nothing stands between. -/
theorem join_empty (xs : List (List UInt8)) : join xs [] = xs.flatten := by
  unfold join
  induction xs with
  | nil => rfl
  | cons x xs ih =>
    cases xs with
    | nil => simp [List.intercalate]
    | cons y ys =>
      simp only [List.intercalate, List.intersperse, List.flatten_cons] at ih ⊢
      rw [ih]; simp
theorem dec_len_bound {u k : Nat} (h : u < 2 ^ k) (hk : 1 ≤ k) : (decDigits u).length ≤ k := by
  rw [decDigits_length]
  by_cases h0 : u < 10
  · rw [nDigits_small h0]; exact hk
  · obtain ⟨d, hd⟩ : ∃ d, nDigits u = d + 1 := ⟨nDigits u - 1, by have := nDigits_pos u; omega⟩
    rcases Nat.lt_or_ge k (d + 1) with hlt | hge
    · exfalso
      have h1 : 10 ^ d ≤ u := by
        rcases Nat.lt_or_ge u (10 ^ d) with h2 | h2
        · exfalso
          have : ∀ (j v : Nat), v < 10 ^ j → 1 ≤ j → nDigits v ≤ j := by
            intro j
            induction j with
            | zero => omega
            | succ j ih =>
              intro v hv _
              by_cases hv0 : v < 10
              · rw [nDigits_small hv0]; omega
              · rw [nDigits_big hv0]
                rw [Nat.pow_succ] at hv
                have hj : 1 ≤ j := by
                  rcases Nat.eq_zero_or_pos j with e | e
                  · subst e; simp at hv; omega
                  · exact e
                have := ih (v / 10) (by omega) hj
                omega
          have hd1 : 1 ≤ d := by
            rcases Nat.eq_zero_or_pos d with e | e
            · subst e; simp at h2; omega
            · exact e
          have := this d u h2 hd1
          omega
        · exact h2
      have h2 : 2 ^ d ≤ 10 ^ d := Nat.pow_le_pow_left (by omega) d
      have h3 : 2 ^ k ≤ 2 ^ d := Nat.pow_le_pow_right (by omega) (by omega)
      omega
    · omega
end Go.Cal
namespace Go.Cal
/-- The state behind a byte. -/
def nxt (st : Nat) (c : UInt8) : Nat :=
  if st < 2 ∧ (c = 45 ∨ c = 105 ∨ c = 110 ∨ c = 78 ∨ c = 46) then
    (if c = 45 then (if st = 0 then 1 else 99) else if c = 105 then 10 else if c = 110 then 20 else if c = 78 then 30 else 4)
  else if isDig c = true ∧ st ≤ 8 then
    (if st ≤ 2 then 2 else if st ≤ 5 then 5 else 8)
  else if st = 2 ∧ c = 46 then 3
  else if (st = 2 ∨ st = 3 ∨ st = 5) ∧ (c = 101 ∨ c = 69) then 6
  else if st = 6 ∧ (c = 43 ∨ c = 45) then 7
  else if (st = 10 ∧ c = 110) ∨ (st = 11 ∧ c = 102) ∨ (st = 20 ∧ c = 97) ∨ (st = 21 ∧ c = 110) ∨ (st = 30 ∧ c = 97) ∨ (st = 31 ∧ c = 82) then st + 1
  else 99
def over (st : Nat) : Bool := st == 2 || st == 3 || st == 5 || st == 8 || st == 12 || st == 22 || st == 32
/-- Is it a text, from a state on; and how many bytes go on. -/
def outA : Nat → List UInt8 → Bool × Nat
  | st, [] => (over st, 0)
  | st, c :: t => if nxt st c = 99 then (false, 0) else ((outA (nxt st c) t).1, (outA (nxt st c) t).2 + 1)
theorem outA_nil (st : Nat) : outA st [] = (over st, 0) := rfl
theorem outA_dead {st : Nat} {c : UInt8} (h : nxt st c = 99) (t : List UInt8) : outA st (c :: t) = (false, 0) := by rw [outA, if_pos h]
theorem outA_go {st st' : Nat} {c : UInt8} (h : nxt st c = st') (h' : st' ≠ 99) (t : List UInt8) : outA st (c :: t) = ((outA st' t).1, (outA st' t).2 + 1) := by
  subst h
  rw [outA, if_neg h']
/-- A run of digits that a state stays at. -/
theorem outA_run {st st' : Nat} (h0 : ∀ c, isDig c = true → nxt st c = st') (h1 : ∀ c, isDig c = true → nxt st' c = st') (h9 : st' ≠ 99) : ∀ (d t : List UInt8), (∀ c ∈ d, isDig c = true) → d ≠ [] → outA st (d ++ t) = ((outA st' t).1, (outA st' t).2 + d.length)
  | [], _, _, h => absurd rfl h
  | [c], t, hd, _ => by
    rw [List.singleton_append, outA_go (h0 c (hd c (by simp))) h9]; rfl
  | c :: c' :: d, t, hd, _ => by
    have ih := outA_run h1 h1 h9 (c' :: d) t (fun x hx => hd x (by simp [hx])) (by simp)
    rw [List.cons_append, outA_go (h0 c (hd c (by simp))) h9, ih]
    simp [Nat.add_assoc]
/-- Where a row of digits ends. -/
theorem span_split (t : List UInt8) : t.takeWhile isDig ++ t.dropWhile isDig = t := List.takeWhile_append_dropWhile
theorem take_digs (t : List UInt8) : ∀ c ∈ t.takeWhile isDig, isDig c = true := fun c hc => by
  induction t with
  | nil => simp at hc
  | cons x t ih =>
    by_cases h : isDig x = true
    · rw [List.takeWhile_cons_of_pos h] at hc
      rcases List.mem_cons.1 hc with rfl | hc
      · exact h
      · exact ih hc
    · rw [List.takeWhile_cons_of_neg h] at hc
      simp at hc
theorem drop_head (t : List UInt8) {c : UInt8} {r : List UInt8} (h : t.dropWhile isDig = c :: r) : isDig c = false := by
  induction t with
  | nil => simp at h
  | cons x t ih =>
    by_cases hx : isDig x = true
    · rw [List.dropWhile_cons_of_pos hx] at h; exact ih h
    · rw [List.dropWhile_cons_of_neg hx] at h
      injection h with h1 h2
      subst h1
      simpa using hx
/-- Behind an e, and its sign: the digits; how far it goes on. -/
def expN (t : List UInt8) : Bool × Nat := (!(t.takeWhile isDig).isEmpty && (t.dropWhile isDig).isEmpty, (t.takeWhile isDig).length)
/-- Behind an e. -/
def expE (t : List UInt8) : Bool × Nat :=
  match t with
  | [] => (false, 0)
  | c :: r => if c = 43 ∨ c = 45 then ((expN r).1, (expN r).2 + 1) else expN t
theorem expE_cons (c : UInt8) (r : List UInt8) : expE (c :: r) = if c = 43 ∨ c = 45 then ((expN r).1, (expN r).2 + 1) else expN (c :: r) := rfl
/-- Behind the digits. -/
def expS (t : List UInt8) : Bool × Nat :=
  match t with
  | [] => (true, 0)
  | c :: r => if c = 101 ∨ c = 69 then ((expE r).1, (expE r).2 + 1) else (false, 0)
theorem expS_cons (c : UInt8) (r : List UInt8) : expS (c :: r) = if c = 101 ∨ c = 69 then ((expE r).1, (expE r).2 + 1) else (false, 0) := rfl
/-- A number without a sign: is it one; how far it goes on. -/
def numS (t : List UInt8) : Bool × Nat :=
  match t.dropWhile isDig with
  | 46 :: r =>
    if (t.takeWhile isDig).isEmpty && (r.takeWhile isDig).isEmpty then (false, 1)
    else ((expS (r.dropWhile isDig)).1, (t.takeWhile isDig).length + 1 + (r.takeWhile isDig).length + (expS (r.dropWhile isDig)).2)
  | r => if (t.takeWhile isDig).isEmpty then (false, 0) else ((expS r).1, (t.takeWhile isDig).length + (expS r).2)
theorem nxt_dig2 {c : UInt8} (h : isDig c = true) : nxt 2 c = 2 := by simp [nxt, h]
theorem nxt_dig5 {c : UInt8} (h : isDig c = true) : nxt 5 c = 5 := by simp [nxt, h]
theorem nxt_dig8 {c : UInt8} (h : isDig c = true) : nxt 8 c = 8 := by simp [nxt, h]
theorem not_dig {c : UInt8} (h : isDig c = true) : c ≠ 45 ∧ c ≠ 105 ∧ c ≠ 110 ∧ c ≠ 78 ∧ c ≠ 46 ∧ c ≠ 101 ∧ c ≠ 69 ∧ c ≠ 43 ∧ c ≠ 97 ∧ c ≠ 102 ∧ c ≠ 82 := by
  refine ⟨?_, ?_, ?_, ?_, ?_, ?_, ?_, ?_, ?_, ?_, ?_⟩ <;> (rintro rfl; exact absurd h (by decide))
theorem nxt_dig01 {c : UInt8} (h : isDig c = true) : nxt 0 c = 2 ∧ nxt 1 c = 2 := by
  obtain ⟨h1, h2, h3, h4, h5, _⟩ := not_dig h
  simp [nxt, h, h1, h2, h3, h4, h5]
theorem outA_8 (t : List UInt8) : outA 8 t = ((t.dropWhile isDig).isEmpty, (t.takeWhile isDig).length) := by
  have key : ∀ r, (∀ c s, r = c :: s → isDig c = false) → outA 8 r = (r.isEmpty, 0) := fun r h => by
    match r with
    | [] => rfl
    | c :: s =>
      have := h c s rfl
      rw [outA_dead (by simp [nxt, this])]; rfl
  have hk := key (t.dropWhile isDig) (fun c s h => drop_head t h)
  conv => lhs; rw [← span_split t]
  by_cases h0 : t.takeWhile isDig = []
  · rw [h0, List.nil_append, hk]; rfl
  · rw [outA_run (fun c h => nxt_dig8 h) (fun c h => nxt_dig8 h) (by decide) _ _ (take_digs t) h0, hk]; simp
theorem outA_67 (st : Nat) (hst : st = 6 ∨ st = 7) (t : List UInt8) (hs : ∀ c r, t = c :: r → st = 6 → c ≠ 43 ∧ c ≠ 45) : outA st t = expN t := by
  have hd : ∀ c, isDig c = true → nxt st c = 8 := fun c h => by rcases hst with rfl | rfl <;> simp [nxt, h]
  have hn : over st = false := by rcases hst with rfl | rfl <;> rfl
  unfold expN
  by_cases h0 : t.takeWhile isDig = []
  · match t, h0 with
    | [], _ => rw [outA_nil, hn]; rfl
    | c :: r, h0 =>
      have hc : isDig c = false := by
        by_cases h : isDig c = true
        · rw [List.takeWhile_cons_of_pos h] at h0; cases h0
        · simpa using h
      have hs' := hs c r rfl
      rw [outA_dead (by rcases hst with rfl | rfl <;> simp [nxt, hc]; exact hs' rfl), h0]; rfl
  · have h8 := outA_8 (t.dropWhile isDig)
    have hdd : (t.dropWhile isDig).dropWhile isDig = t.dropWhile isDig ∧ (t.dropWhile isDig).takeWhile isDig = [] := by
      match hh : t.dropWhile isDig with
      | [] => exact ⟨rfl, rfl⟩
      | c :: s =>
        have := drop_head t hh
        exact ⟨List.dropWhile_cons_of_neg (by simp [this]), List.takeWhile_cons_of_neg (by simp [this])⟩
    rw [hdd.1, hdd.2] at h8
    conv => lhs; rw [← span_split t]
    rw [outA_run hd (fun c h => nxt_dig8 h) (by decide) _ _ (take_digs t) h0, h8]
    have : (t.takeWhile isDig).isEmpty = false := by simpa using h0
    simp [this]
theorem outA_6 (t : List UInt8) : outA 6 t = expE t := by
  match t with
  | [] => rfl
  | c :: r =>
    rw [expE_cons]
    by_cases h : c = 43 ∨ c = 45
    · rw [if_pos h]
      have hd : isDig c = false := by rcases h with rfl | rfl <;> decide
      rw [outA_go (st' := 7) (by rcases h with rfl | rfl <;> decide) (by decide), outA_67 7 (.inr rfl) r (fun _ _ _ e => absurd e (by decide))]
    · rw [if_neg h]
      exact outA_67 6 (.inl rfl) _ (fun c' r' e _ => by injection e with e1 e2; subst e1; exact ⟨fun e => h (.inl e), fun e => h (.inr e)⟩)
theorem outA_e (st : Nat) (hst : st = 2 ∨ st = 3 ∨ st = 5) (t : List UInt8) (hd : ∀ c r, t = c :: r → isDig c = false ∧ (st = 2 → c ≠ 46)) : outA st t = expS t := by
  match t with
  | [] => rcases hst with rfl | rfl | rfl <;> rfl
  | c :: r =>
    obtain ⟨h1, h2⟩ := hd c r rfl
    rw [expS_cons]
    by_cases h : c = 101 ∨ c = 69
    · rw [if_pos h, outA_go (st' := 6) (by rcases hst with rfl | rfl | rfl <;> rcases h with rfl | rfl <;> decide) (by decide), outA_6]
    · rw [if_neg h]
      rw [outA_dead]
      rcases hst with rfl | rfl | rfl
      · simp [nxt, h1, h2 rfl, h]
      · simp [nxt, h1, h]
      · simp [nxt, h1, h]
theorem outA_345 (st : Nat) (hst : st = 3 ∨ st = 4) (r : List UInt8) (h : st = 4 → r.takeWhile isDig ≠ []) : outA st r = ((expS (r.dropWhile isDig)).1, (r.takeWhile isDig).length + (expS (r.dropWhile isDig)).2) := by
  have hd : ∀ c, isDig c = true → nxt st c = 5 := fun c hc => by rcases hst with rfl | rfl <;> simp [nxt, hc]
  have hh : ∀ c s, r.dropWhile isDig = c :: s → isDig c = false := fun c s e => drop_head r e
  by_cases h0 : r.takeWhile isDig = []
  · rcases hst with rfl | rfl
    · have e : r.dropWhile isDig = r := by
        have := span_split r
        rwa [h0, List.nil_append] at this
      rw [h0, e, outA_e 3 (by simp) r (fun c s hcs => ⟨hh c s (by rw [e]; exact hcs), fun e => absurd e (by decide)⟩)]
      simp
    · exact absurd h0 (h rfl)
  · have h5 := outA_e 5 (by simp) (r.dropWhile isDig) (fun c s e => ⟨hh c s e, fun e => absurd e (by decide)⟩)
    conv => lhs; rw [← span_split r]
    rw [outA_run hd (fun c h => nxt_dig5 h) (by decide) _ _ (take_digs r) h0, h5, Nat.add_comm]
/-- A number, by states. -/
theorem outA_num (st : Nat) (hst : st = 0 ∨ st = 1) (t : List UInt8) (hd : ∀ c r, t = c :: r → c ≠ 105 ∧ c ≠ 110 ∧ c ≠ 78 ∧ c ≠ 45) : outA st t = numS t := by
  have hn : over st = false := by rcases hst with rfl | rfl <;> rfl
  have h2 : ∀ c, isDig c = true → nxt st c = 2 := fun c h => by rcases hst with rfl | rfl; exact (nxt_dig01 h).1; exact (nxt_dig01 h).2
  have hsp := span_split t
  have hdh : ∀ c s, t.dropWhile isDig = c :: s → isDig c = false := fun c s e => drop_head t e
  unfold numS
  by_cases h0 : t.takeWhile isDig = []
  · have e : t.dropWhile isDig = t := by rwa [h0, List.nil_append] at hsp
    rw [e]
    match t, hd, hdh, h0, e with
    | [], _, _, _, _ => rw [outA_nil, hn]; rfl
    | c :: r, hd, hdh, h0, e =>
      have hc := hdh c r e
      obtain ⟨d1, d2, d3, d4⟩ := hd c r rfl
      by_cases hp : c = 46
      · subst hp
        simp only [h0, List.isEmpty_nil, Bool.true_and, List.length_nil, Nat.zero_add]
        rw [outA_go (st := st) (st' := 4) (by rcases hst with rfl | rfl <;> decide) (by decide)]
        by_cases h1 : r.takeWhile isDig = []
        · rw [if_pos (by simp [h1])]
          match r, h1 with
          | [], _ => rfl
          | x :: s, h1 =>
            have hx : isDig x = false := by
              by_cases h : isDig x = true
              · rw [List.takeWhile_cons_of_pos h] at h1; cases h1
              · simpa using h
            rw [outA_dead (by simp [nxt, hx])]
        · rw [if_neg (by simpa using h1), outA_345 4 (.inr rfl) r (fun _ => h1)]
          exact Prod.ext rfl (by show _ + _ + 1 = 1 + _ + _; omega)
      · have : outA st (c :: r) = (false, 0) := outA_dead (by rcases hst with rfl | rfl <;> simp [nxt, hc, hp, d1, d2, d3, d4]) r
        rw [this]
        split
        · rename_i r' heq
          injection heq with e1 e2
          exact absurd e1 hp
        · simp [h0]
  · have hne : (t.takeWhile isDig).isEmpty = false := by simpa using h0
    conv => lhs; rw [← hsp]
    rw [outA_run h2 (fun c h => nxt_dig2 h) (by decide) _ _ (take_digs t) h0]
    match hr : t.dropWhile isDig with
    | [] => simp [hne, expS, outA, over]
    | c :: r =>
      have hc := hdh c r hr
      by_cases hp : c = 46
      · subst hp
        rw [outA_go (st := 2) (st' := 3) (by decide) (by decide), outA_345 3 (.inl rfl) r (fun e => absurd e (by decide))]
        simp only [hne, Bool.false_and]
        exact Prod.ext rfl (by show _ + _ + 1 + _ = _ + 1 + _ + _; omega)
      · rw [outA_e 2 (by simp) (c :: r) (fun c' r' e => by injection e with e1 e2; subst e1; exact ⟨hc, fun _ => hp⟩)]
        split
        · rename_i r' heq
          injection heq with e1 e2
          exact absurd e1 hp
        · simp [hne, Nat.add_comm]
end Go.Cal
namespace Go.Cal
/-- How far two rows go together. -/
def lcp : List UInt8 → List UInt8 → Nat
  | x :: xs, y :: ys => if x = y then lcp xs ys + 1 else 0
  | _, _ => 0
/-- The five words of the program's row. -/
def wINF : List UInt8 := [105, 110, 102]
def wNAN : List UInt8 := [110, 97, 110]
def wNAR : List UInt8 := [78, 97, 82]
/-- Which word a text is: 2, 3, 4; 0: none. -/
def wordK (t : List UInt8) : Nat := if t = wINF then 2 else if t = wNAN then 3 else if t = wNAR then 4 else 0
/-- How far it goes on as one. -/
def wordN (t : List UInt8) : Nat := max (lcp t wINF) (max (lcp t wNAN) (lcp t wNAR))
/-- A text behind its sign: is it one; how far it goes on. -/
def bodyS (t : List UInt8) : Bool × Nat := if wordK t ≠ 0 then (true, 3) else ((numS t).1, max (wordN t) (numS t).2)
theorem nxt_99 {st : Nat} {c : UInt8} (h9 : 9 ≤ st) (h : ¬ ((st = 10 ∧ c = 110) ∨ (st = 11 ∧ c = 102) ∨ (st = 20 ∧ c = 97) ∨ (st = 21 ∧ c = 110) ∨ (st = 30 ∧ c = 97) ∨ (st = 31 ∧ c = 82))) : nxt st c = 99 := by
  unfold nxt
  rw [if_neg (by omega), if_neg (by omega), if_neg (by omega), if_neg (by omega), if_neg (by omega), if_neg h]
/-- A word, by states: b1 b2 b3 are its bytes, q the state behind the first one. -/
theorem outA_three {st q : Nat} {b1 b2 b3 : UInt8} (h1 : nxt st b1 = q) (h2 : nxt q b2 = q + 1) (h3 : nxt (q + 1) b3 = q + 2) (hq : q = 10 ∨ q = 20 ∨ q = 30) (n2 : ∀ c, c ≠ b2 → nxt q c = 99) (n3 : ∀ c, c ≠ b3 → nxt (q + 1) c = 99) (r : List UInt8) :
    outA st (b1 :: r) = (decide (b1 :: r = [b1, b2, b3]), lcp (b1 :: r) [b1, b2, b3]) := by
  have ho : over q = false ∧ over (q + 1) = false ∧ over (q + 2) = true := by rcases hq with rfl | rfl | rfl <;> exact ⟨rfl, rfl, rfl⟩
  have n4 : ∀ c, nxt (q + 2) c = 99 := fun c => nxt_99 (by omega) (by omega)
  rw [outA_go h1 (by omega)]
  match r with
  | [] => rw [outA_nil, ho.1]; simp [lcp]
  | c2 :: r =>
    by_cases e2 : c2 = b2
    · subst e2
      rw [outA_go h2 (by omega)]
      match r with
      | [] => rw [outA_nil, ho.2.1]; simp [lcp]
      | c3 :: r =>
        by_cases e3 : c3 = b3
        · subst e3
          rw [outA_go h3 (by omega)]
          match r with
          | [] => rw [outA_nil, ho.2.2]; simp [lcp]
          | c4 :: r => rw [outA_dead (n4 c4)]; simp [lcp]
        · rw [outA_dead (n3 c3 e3)]; simp [lcp, e3]
    · rw [outA_dead (n2 c2 e2)]; simp [lcp, e2]
theorem numS_other {c : UInt8} {r : List UInt8} (hd : isDig c = false) (hp : c ≠ 46) : numS (c :: r) = (false, 0) := by
  have h1 : (c :: r).takeWhile isDig = [] := List.takeWhile_cons_of_neg (by simp [hd])
  have h2 : (c :: r).dropWhile isDig = c :: r := List.dropWhile_cons_of_neg (by simp [hd])
  unfold numS
  rw [h2]
  split
  · rename_i r' heq
    injection heq with e1 e2
    exact absurd e1 hp
  · simp [h1]
theorem lcp_head {c : UInt8} {r : List UInt8} {d : UInt8} {s : List UInt8} (h : c ≠ d) : lcp (c :: r) (d :: s) = 0 := by simp [lcp, h]
/-- A text behind its sign, by states and by parts. -/
theorem outA_body (st : Nat) (hst : st = 0 ∨ st = 1) (t : List UInt8) (hs : ∀ c r, t = c :: r → c = 45 → st = 1) : (outA st t).1 = (bodyS t).1 ∧ ((outA st t).1 = false → (outA st t).2 = (bodyS t).2) := by
  have word : ∀ (b1 b2 b3 : UInt8) (q : Nat) (r : List UInt8), nxt st b1 = q → nxt q b2 = q + 1 → nxt (q + 1) b3 = q + 2 → (q = 10 ∨ q = 20 ∨ q = 30) → (∀ c, c ≠ b2 → nxt q c = 99) → (∀ c, c ≠ b3 → nxt (q + 1) c = 99) → isDig b1 = false → b1 ≠ 46 →
      (wordK (b1 :: r) ≠ 0 ↔ b1 :: r = [b1, b2, b3]) → wordN (b1 :: r) = lcp (b1 :: r) [b1, b2, b3] → (outA st (b1 :: r)).1 = (bodyS (b1 :: r)).1 ∧ ((outA st (b1 :: r)).1 = false → (outA st (b1 :: r)).2 = (bodyS (b1 :: r)).2) := by
    intro b1 b2 b3 q r h1 h2 h3 hq n2 n3 hd hp hk hn
    rw [outA_three h1 h2 h3 hq n2 n3 r]
    unfold bodyS
    by_cases h : b1 :: r = [b1, b2, b3]
    · rw [if_pos (hk.2 h)]
      simp [h]
    · rw [if_neg (fun e => h (hk.1 e)), numS_other hd hp, hn]
      simp [h]
  match t with
  | [] =>
    rcases hst with rfl | rfl <;> exact ⟨rfl, fun _ => rfl⟩
  | c :: r =>
    by_cases e1 : c = 105
    · subst e1
      refine word 105 110 102 10 r (by rcases hst with rfl | rfl <;> decide) (by decide) (by decide) (by simp) (fun c h => nxt_99 (by decide) (by simp [h])) (fun c h => nxt_99 (by decide) (by simp [h])) (by decide) (by decide) ?_ ?_
      · unfold wordK
        by_cases h : (105 : UInt8) :: r = wINF
        · rw [if_pos h]; exact ⟨fun _ => h, fun _ => by decide⟩
        · rw [if_neg h, if_neg (by unfold wNAN; simp), if_neg (by unfold wNAR; simp)]
          exact ⟨fun e => absurd rfl e, fun e => absurd e h⟩
      · unfold wordN wNAN wNAR wINF
        rw [lcp_head (d := 110) (by decide), lcp_head (d := 78) (by decide)]
        simp
    · by_cases e2 : c = 110
      · subst e2
        refine word 110 97 110 20 r (by rcases hst with rfl | rfl <;> decide) (by decide) (by decide) (by simp) (fun c h => nxt_99 (by decide) (by simp [h])) (fun c h => nxt_99 (by decide) (by simp [h])) (by decide) (by decide) ?_ ?_
        · unfold wordK
          rw [if_neg (by unfold wINF; simp)]
          by_cases h : (110 : UInt8) :: r = wNAN
          · rw [if_pos h]; exact ⟨fun _ => h, fun _ => by decide⟩
          · rw [if_neg h, if_neg (by unfold wNAR; simp)]
            exact ⟨fun e => absurd rfl e, fun e => absurd e h⟩
        · unfold wordN wNAN wNAR wINF
          rw [lcp_head (d := 105) (by decide), lcp_head (d := 78) (by decide)]
          simp
      · by_cases e3 : c = 78
        · subst e3
          refine word 78 97 82 30 r (by rcases hst with rfl | rfl <;> decide) (by decide) (by decide) (by simp) (fun c h => nxt_99 (by decide) (by simp [h])) (fun c h => nxt_99 (by decide) (by simp [h])) (by decide) (by decide) ?_ ?_
          · unfold wordK
            rw [if_neg (by unfold wINF; simp), if_neg (by unfold wNAN; simp)]
            by_cases h : (78 : UInt8) :: r = wNAR
            · rw [if_pos h]; exact ⟨fun _ => h, fun _ => by decide⟩
            · rw [if_neg h]
              exact ⟨fun e => absurd rfl e, fun e => absurd e h⟩
          · unfold wordN wNAN wNAR wINF
            rw [lcp_head (d := 105) (by decide), lcp_head (d := 110) (by decide)]
            simp
        · have hk : wordK (c :: r) = 0 := by
            unfold wordK
            rw [if_neg (by unfold wINF; simp [e1]), if_neg (by unfold wNAN; simp [e2]), if_neg (by unfold wNAR; simp [e3])]
          have hn : wordN (c :: r) = 0 := by
            unfold wordN wNAN wNAR wINF
            rw [lcp_head e1, lcp_head e2, lcp_head e3]; rfl
          have hb : bodyS (c :: r) = ((numS (c :: r)).1, (numS (c :: r)).2) := by
            unfold bodyS
            rw [if_neg (by simp [hk]), hn, Nat.zero_max]
          rw [hb]
          by_cases e4 : c = 45
          · subst e4
            obtain rfl := hs 45 r rfl rfl
            rw [outA_dead (by decide), numS_other (by decide) (by decide)]
            exact ⟨rfl, fun _ => rfl⟩
          · rw [outA_num st hst (c :: r) (fun c' r' e => by injection e with q1 q2; subst q1; exact ⟨e1, e2, e3, e4⟩)]
            exact ⟨rfl, fun _ => rfl⟩
/-- A whole text: is it one; where it goes wrong. -/
def textS (l : List UInt8) : Bool × Nat :=
  match l with
  | 45 :: t => ((bodyS t).1, (bodyS t).2 + 1)
  | t => bodyS t
theorem outA_text (l : List UInt8) : (outA 0 l).1 = (textS l).1 ∧ ((outA 0 l).1 = false → (outA 0 l).2 = (textS l).2) := by
  unfold textS
  split
  · rename_i t
    obtain ⟨h1, h2⟩ := outA_body 1 (.inr rfl) t (fun _ _ _ _ => rfl)
    rw [outA_go (st := 0) (st' := 1) (by decide) (by decide)]
    exact ⟨h1, fun e => by show _ + 1 = _ + 1; rw [h2 e]⟩
  · rename_i hne
    exact outA_body 0 (.inl rfl) l (fun c r e e2 => by subst e2; exact absurd e (hne r))
end Go.Cal
namespace Go.Cal
def liveL : List Nat := [0, 1, 2, 3, 4, 5, 6, 7, 8, 10, 11, 12, 20, 21, 22, 30, 31, 32]
theorem nxt_live {st : Nat} (h : st ∈ liveL) (c : UInt8) (h9 : nxt st c ≠ 99) : nxt st c ∈ liveL := by
  revert h9
  unfold nxt
  split
  · split
    · split
      · intro _; decide
      · intro e; exact absurd rfl e
    · split
      · intro _; decide
      · split
        · intro _; decide
        · split
          · intro _; decide
          · intro _; decide
  · split
    · split
      · intro _; decide
      · split
        · intro _; decide
        · intro _; decide
    · split
      · intro _; decide
      · split
        · intro _; decide
        · split
          · intro _; decide
          · split
            · rename_i h6
              intro _
              rcases h6 with ⟨rfl, _⟩ | ⟨rfl, _⟩ | ⟨rfl, _⟩ | ⟨rfl, _⟩ | ⟨rfl, _⟩ | ⟨rfl, _⟩ <;> decide
            · intro e; exact absurd rfl e
/-- What a text is. -/
structure Item where
  kind : Nat
  neg : Bool
  d : Nat
  k : Int
  big : Int
  cut : Bool
end Go.Cal
namespace Go.Cal
/-- A row of bytes that begins with no digit. -/
def NoDig (r : List UInt8) : Prop := ∀ c s, r = c :: s → isDig c = false
theorem NoDig.nil : NoDig [] := fun c s e => by cases e
theorem NoDig.cons {c : UInt8} {r : List UInt8} (h : isDig c = false) : NoDig (c :: r) := fun c' s e => by injection e with e1 e2; subst e1; exact h
theorem dig_app {a b : List UInt8} (ha : ∀ c ∈ a, isDig c = true) (hb : ∀ c ∈ b, isDig c = true) : ∀ c ∈ a ++ b, isDig c = true := fun c hc => by
  rcases List.mem_append.1 hc with h | h
  · exact ha c h
  · exact hb c h
theorem dig_zero (m : Nat) : ∀ c ∈ List.replicate m (48 : UInt8), isDig c = true := fun c hc => by
  rw [List.eq_of_mem_replicate hc]; decide
/-- What is behind the digits: nothing, or an exponent. -/
structure ExpT (r : List UInt8) : Prop where
  ok : (expS r).1 = true
  head : ∀ c s, r = c :: s → c = 101 ∨ c = 69
theorem ExpT.nil : ExpT [] := ⟨rfl, fun c s e => by cases e⟩
end Go.Cal
namespace Go.Cal
theorem snoc_of {l : List UInt8} (h : l ≠ []) : ∃ r c, l = r ++ [c] := ⟨l.dropLast, l.getLast h, (List.dropLast_concat_getLast h).symm⟩
/-- A number as text. -/
def numT (n : Int) : List UInt8 := if n < 0 then 45 :: Lib.decDigits n.natAbs else Lib.decDigits n.natAbs
section Same
variable (S : List UInt8) (hS : ∀ c ∈ S, isDig c = true)
include hS
end Same
section Case
variable (W P : List UInt8) (hW : ∀ c ∈ W, isDig c = true) (hP : ∀ c ∈ P, isDig c = true)
include hW hP
end Case
end Go.Cal
namespace Go.Cal
open Go.Lib
/-- What stands ahead of the first c, what behind it, and is there one. -/
def cutC (c : UInt8) (l : List UInt8) : List UInt8 × List UInt8 × Bool := (l.takeWhile (· != c), (l.dropWhile (· != c)).drop 1, l.contains c)
/-- What has no c is not cut; what begins without one, is. -/
theorem take_none {c : UInt8} : ∀ {l : List UInt8}, c ∉ l → l.takeWhile (· != c) = l ∧ l.dropWhile (· != c) = []
  | [], _ => ⟨rfl, rfl⟩
  | x :: l, h => by
    have hx : (x != c) = true := by simpa using fun e : x = c => h (by simp [e])
    obtain ⟨h1, h2⟩ := take_none (l := l) fun e : c ∈ l => h (List.mem_cons_of_mem _ e)
    rw [List.takeWhile_cons_of_pos (p := (· != c)) hx, List.dropWhile_cons_of_pos (p := (· != c)) hx, h1, h2]
    exact ⟨rfl, rfl⟩
theorem cutC_none {c : UInt8} {l : List UInt8} (h : c ∉ l) : cutC c l = (l, [], false) := by
  unfold cutC
  obtain ⟨h1, h2⟩ := take_none h
  rw [h1, h2]
  simpa using h
theorem cutC_some {c : UInt8} {l r : List UInt8} (h : c ∉ l) : cutC c (l ++ c :: r) = (l, r, true) := by
  unfold cutC
  have h0 : ∀ x ∈ l, (x != c) = true := fun x hx => by simpa using fun e : x = c => h (e ▸ hx)
  rw [List.takeWhile_append_of_pos h0, List.dropWhile_append_of_pos h0]
  simp
/-- A numeral is read as the number that it is. -/
theorem uint_digs : ∀ (l : List UInt8) (acc : Nat), (∀ c ∈ l, isDig c = true) → acc * 10 ^ l.length + numV l < 1844674407370955162 → parseUint10 acc l = .ok (acc * 10 ^ l.length + numV l)
  | [], acc, _, _ => by simp [parseUint10, numV]
  | c :: r, acc, hd, hb => by
    have hc := hd c (by simp)
    unfold isDig at hc
    simp only [Bool.and_eq_true, decide_eq_true_eq] at hc
    have hn : numV (c :: r) = (c.toNat - 48) * 10 ^ r.length + numV r := by
      have := numV_append [c] r
      rw [List.singleton_append] at this
      rw [this]; simp [numV]
    have hs : acc * 10 ^ (c :: r).length + numV (c :: r) = (acc * 10 + (c.toNat - 48)) * 10 ^ r.length + numV r := by
      rw [hn, List.length_cons, Nat.pow_succ, Nat.add_mul, Nat.add_assoc, Nat.mul_comm (10 ^ r.length) 10, ← Nat.mul_assoc]
    rw [hs] at hb ⊢
    have hp : 0 < 10 ^ r.length := Nat.pow_pos (by decide)
    have h1 : (acc * 10 + (c.toNat - 48)) * 1 ≤ (acc * 10 + (c.toNat - 48)) * 10 ^ r.length := Nat.mul_le_mul_left _ hp
    unfold parseUint10
    rw [if_pos hc, if_neg (by omega), if_neg (by omega)]
    exact uint_digs r _ (fun x hx => hd x (by simp [hx])) hb
theorem mag_dec {u : Nat} (hu : u < 1844674407370955162) : parseMag (decDigits u) = .ok u := by
  unfold parseMag
  rw [if_neg (dec_ne u)]
  have := uint_digs (decDigits u) 0 (dec_digs u) (by rw [Nat.zero_mul, Nat.zero_add, numV_dec]; exact hu)
  rwa [Nat.zero_mul, Nat.zero_add, numV_dec] at this
theorem atoi_num {n : Int} (h : n.natAbs < 1000000) : atoiAll (numT n) = .ok n := by
  unfold numT
  by_cases h0 : n < 0
  · rw [if_pos h0, atoiAll_minus, mag_dec (by omega)]
    show (if _ then NumEnd.range else _) = _
    rw [if_neg (by omega)]
    congr 1
    omega
  · rw [if_neg h0]
    match hd : decDigits n.natAbs, dec_ne n.natAbs with
    | c :: r, _ =>
      have hc : isDig c = true := dec_digs n.natAbs c (by rw [hd]; simp)
      have h1 := hc
      unfold isDig at h1
      simp only [Bool.and_eq_true, decide_eq_true_eq] at h1
      rw [atoiAll_plain c r (by omega) (by omega), ← hd, mag_dec (by omega)]
      show (if _ then NumEnd.range else _) = _
      rw [if_neg (by omega)]
      congr 1
      omega
end Go.Cal
namespace Go.Cal
open Go.Lib
/-- The digits S, times ten to the power of k, as they are written. -/
def lyB (S : List UInt8) (k : Int) : List UInt8 :=
  if 0 ≤ k ∧ (S.length : Int) + k ≤ 21 then S ++ List.replicate k.toNat 48
  else if 0 < (S.length : Int) + k ∧ (S.length : Int) + k ≤ 21 then S.take ((S.length : Int) + k).toNat ++ 46 :: S.drop ((S.length : Int) + k).toNat
  else if -6 < (S.length : Int) + k ∧ (S.length : Int) + k ≤ 0 then 48 :: 46 :: (List.replicate (-((S.length : Int) + k)).toNat 48 ++ S)
  else if S.length = 1 then S ++ 101 :: numT ((S.length : Int) + k - 1)
  else S.take 1 ++ 46 :: (S.drop 1 ++ 101 :: numT ((S.length : Int) + k - 1))
def lyS (d : Nat) (k : Int) : List UInt8 := if d = 0 then [48] else lyB (decDigits d) k
def lyT (neg : Bool) (d : Nat) (k : Int) : List UInt8 := (if neg = true then [45] else []) ++ lyS d k
/-- Are digits right (of a number that is normal)? -/
def DRight (d : Nat) (k : Int) : Prop := (d = 0 ∧ k = 0) ∨ (0 < d ∧ d % 10 ≠ 0 ∧ (decDigits d).length ≤ 2000 ∧ -5000 ≤ k ∧ k ≤ 5000)
instance (d : Nat) (k : Int) : Decidable (DRight d k) := by unfold DRight; exact inferInstance
/-- How the text of digits is put together. -/
structure LyP (S : List UInt8) (k : Int) (pt ex : Bool) (W P : List UInt8) (k0 : Int) (a b : Nat) : Prop where
  eq : lyB S k = W ++ ((if pt = true then 46 :: P else []) ++ (if ex = true then 101 :: numT k0 else []))
  np : pt = false → P = []
  ne : ex = false → k0 = 0
  all : W ++ P = List.replicate a 48 ++ (S ++ List.replicate b 48)
  kk : k = k0 + b - P.length
  w : W ≠ []
  lo : -10000 ≤ k0 ∧ k0 ≤ 10000
  far : ex = true ↔ 21 < (S.length : Int) + k ∨ (S.length : Int) + k < -5
  point : pt = true ↔ (ex = true ∧ 1 < S.length) ∨ (ex = false ∧ k < 0)
section
variable {S W P : List UInt8} {k k0 : Int} {pt ex : Bool} {a b : Nat}
theorem LyP.digW (h : LyP S k pt ex W P k0 a b) (hd : ∀ c ∈ S, isDig c = true) : ∀ c ∈ W, isDig c = true := fun c hc => by
  have h1 : c ∈ W ++ P := List.mem_append.2 (.inl hc)
  rw [h.all] at h1
  exact dig_app (dig_zero a) (dig_app hd (dig_zero b)) c h1
theorem LyP.digP (h : LyP S k pt ex W P k0 a b) (hd : ∀ c ∈ S, isDig c = true) : ∀ c ∈ P, isDig c = true := fun c hc => by
  have h1 : c ∈ W ++ P := List.mem_append.2 (.inr hc)
  rw [h.all] at h1
  exact dig_app (dig_zero a) (dig_app hd (dig_zero b)) c h1
end
theorem dig_no {l : List UInt8} (hd : ∀ c ∈ l, isDig c = true) {c : UInt8} (hc : isDig c = false) : c ∉ l := fun h => by rw [hd c h] at hc; cases hc
/-- Digits that nat.Parse takes. -/
def pOkL (l : List UInt8) : Bool := !l.isEmpty && decide (l.length ≤ 2000) && (!(l.head? == some 48) || decide (l.length ≤ 1)) && l.all isDig
/-- What Unlay makes of a text: where none is wrong, the digits that it tries. -/
def powS (l : List UInt8) : Option Int := match atoiAll l with
  | .ok k => if max k (-k) < 20000 then some k else none
  | _ => none
def candA (t : List UInt8) : Option Int := if (cutC 101 t).2.2 = true then powS (cutC 101 t).2.1 else some 0
def candD (t : List UInt8) : List UInt8 × List UInt8 := ((cutC 46 (cutC 101 t).1).1, (cutC 46 (cutC 101 t).1).2.1)
end Go.Cal
