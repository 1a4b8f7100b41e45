/- Plain numbers: decimal numerals by chunks, and what rows of digits are worth. Conditions: none. -/
import Derived.Test.YtjhdkdfiadlmcaaGreatDoorNum
import Derived.Lib.ItoaNum
import Derived.Lib.Repeat
import Derived.Lib.Join
namespace Go.Cal
open Go.Lib
theorem dec_small {u : Nat} (h : u < 10) : decDigits u = [UInt8.ofNat (48 + u)] := by rw [decDigits, dif_pos h]
theorem dec_big {u : Nat} (h : ¬ u < 10) : decDigits u = decDigits (u / 10) ++ [UInt8.ofNat (48 + u % 10)] := by rw [decDigits, dif_neg h]
def padd : Nat → Nat → List UInt8
  | 0, _ => []
  | k + 1, r => padd k (r / 10) ++ [UInt8.ofNat (48 + r % 10)]
theorem padd_length : ∀ k r, (padd k r).length = k
  | 0, _ => rfl
  | k + 1, r => by simp [padd, padd_length k]
theorem dec_padd : ∀ (k q r : Nat), 1 ≤ q → r < 10 ^ k → decDigits (q * 10 ^ k + r) = decDigits q ++ padd k r
  | 0, q, r, _, hr => by
    have : r = 0 := by simpa using hr
    subst this
    simp [padd]
  | k + 1, q, r, hq, hr => by
    have hp : 1 ≤ 10 ^ k := Nat.one_le_pow _ _ (by decide)
    rw [Nat.pow_succ] at hr
    have hq1 : 1 * 10 ^ k ≤ q * 10 ^ k := Nat.mul_le_mul_right _ hq
    have e1 : q * 10 ^ (k + 1) = q * 10 ^ k * 10 := by rw [Nat.pow_succ, Nat.mul_assoc]
    rw [e1, dec_big (by omega), show (q * 10 ^ k * 10 + r) / 10 = q * 10 ^ k + r / 10 by omega, show (q * 10 ^ k * 10 + r) % 10 = r % 10 by omega,
      dec_padd k q (r / 10) hq (by omega), padd, List.append_assoc]
theorem padd_zero : ∀ k, padd k 0 = List.replicate k 48
  | 0 => rfl
  | k + 1 => by
    rw [padd, show 0 / 10 = 0 from rfl, padd_zero k, List.replicate_succ']
    rfl
theorem padd_dec : ∀ (k r : Nat), 1 ≤ k → r < 10 ^ k → padd k r = List.replicate (k - (decDigits r).length) 48 ++ decDigits r ∧ (decDigits r).length ≤ k
  | 0, r, h, _ => by omega
  | k + 1, r, _, hr => by
    by_cases h : r < 10
    · rw [dec_small h, padd, show r / 10 = 0 by omega, padd_zero, Nat.mod_eq_of_lt h]
      simp
    · have hk : 1 ≤ k := by
        rcases Nat.eq_zero_or_pos k with h0 | h0
        · subst h0; simp at hr; omega
        · exact h0
      rw [Nat.pow_succ] at hr
      obtain ⟨h1, h2⟩ := padd_dec k (r / 10) hk (by omega)
      rw [dec_big h, padd, h1]
      simp only [List.length_append, List.length_singleton]
      refine ⟨?_, by omega⟩
      rw [List.append_assoc, show k + 1 - ((decDigits (r / 10)).length + 1) = k - (decDigits (r / 10)).length by omega]
/-- The numeral, by a chunk of k digits. -/
theorem dec_chunk {q r k : Nat} (hq : 1 ≤ q) (hk : 1 ≤ k) (hr : r < 10 ^ k) : decDigits (q * 10 ^ k + r) = decDigits q ++ (List.replicate (k - (decDigits r).length) 48 ++ decDigits r) := by
  rw [dec_padd k q r hq hr, (padd_dec k r hk hr).1]
theorem repeat_one (c : Nat) : repeatL [48] c = List.replicate c 48 := by
  induction c with
  | zero => rfl
  | succ c ih => rw [repeatL, ih]; rfl
/-- What a row of digits is worth. -/
def numV (l : List UInt8) : Nat := l.foldl (fun n c => n * 10 + (c.toNat - 48)) 0
theorem numV_snoc (l : List UInt8) (c : UInt8) : numV (l ++ [c]) = numV l * 10 + (c.toNat - 48) := by simp [numV, List.foldl_append]
theorem foldl_numV (l : List UInt8) (n : Nat) : l.foldl (fun n (c : UInt8) => n * 10 + (c.toNat - 48)) n = n * 10 ^ l.length + numV l := by
  induction l generalizing n with
  | nil => simp [numV]
  | cons c l ih =>
    have e : numV (c :: l) = (c.toNat - 48) * 10 ^ l.length + numV l := by
      show List.foldl _ (0 * 10 + (c.toNat - 48)) l = _
      rw [ih, Nat.zero_mul, Nat.zero_add]
    rw [List.foldl_cons, ih, e, List.length_cons, Nat.pow_succ, Nat.add_mul, Nat.mul_assoc, Nat.mul_comm 10, Nat.add_assoc]
theorem numV_append (l m : List UInt8) : numV (l ++ m) = numV l * 10 ^ m.length + numV m := by
  conv => lhs; rw [numV, List.foldl_append]
  exact foldl_numV m _
theorem digit_toNat {d : Nat} (h : d < 10) : (UInt8.ofNat (48 + d)).toNat = 48 + d := by
  rw [UInt8.toNat_ofNat']; omega
theorem numV_dec (u : Nat) : numV (decDigits u) = u := by
  induction u using Nat.strongRecOn with
  | _ u ih =>
    by_cases h : u < 10
    · rw [dec_small h]
      show 0 * 10 + ((UInt8.ofNat (48 + u)).toNat - 48) = u
      rw [digit_toNat h]; omega
    · rw [dec_big h, numV_snoc, ih (u / 10) (by omega), digit_toNat (Nat.mod_lt _ (by omega))]
      omega
theorem dec_inj {u v : Nat} (h : decDigits u = decDigits v) : u = v := by rw [← numV_dec u, ← numV_dec v, h]
/-- Is a byte a digit? -/
def isDig (c : UInt8) : Bool := 48 ≤ c.toNat && c.toNat ≤ 57
theorem isDig_ofNat {d : Nat} (h : d < 10) : isDig (UInt8.ofNat (48 + d)) = true := by unfold isDig; rw [digit_toNat h]; simp; omega
theorem dec_digs (u : Nat) : ∀ c ∈ decDigits u, isDig c = true := by
  induction u using Nat.strongRecOn with
  | _ u ih =>
    by_cases h : u < 10
    · rw [dec_small h]; intro c hc; rw [List.mem_singleton] at hc; subst hc; exact isDig_ofNat h
    · rw [dec_big h]
      intro c hc
      rcases List.mem_append.1 hc with hc | hc
      · exact ih (u / 10) (by omega) c hc
      · rw [List.mem_singleton] at hc; subst hc; exact isDig_ofNat (Nat.mod_lt _ (by omega))
theorem dec_ne (u : Nat) : decDigits u ≠ [] := by
  by_cases h : u < 10
  · rw [dec_small h]; simp
  · rw [dec_big h]; simp
theorem dec_head {u : Nat} (h : 0 < u) : (decDigits u).head? ≠ some 48 := by
  induction u using Nat.strongRecOn with
  | _ u ih =>
    by_cases h1 : u < 10
    · rw [dec_small h1]
      intro e
      have e2 : UInt8.ofNat (48 + u) = 48 := by simpa using e
      have := digit_toNat h1
      rw [e2] at this
      simp at this; omega
    · rw [dec_big h1]
      have := ih (u / 10) (by omega) (by omega)
      have h2 := dec_ne (u / 10)
      match he : decDigits (u / 10) with
      | [] => exact absurd he h2
      | x :: l => rw [he] at this; simpa using this
/-- A row of digits without noughts ahead is the numeral of what it is worth. -/
theorem dec_numV {l : List UInt8} (h0 : l ≠ []) (hd : ∀ c ∈ l, isDig c = true) (hh : l.head? = some 48 → l.length = 1) : decDigits (numV l) = l := by
  induction hn : l.length generalizing l with
  | zero => exact absurd (List.eq_nil_of_length_eq_zero hn) h0
  | succ n ih =>
    obtain ⟨m, c, rfl⟩ : ∃ m c, l = m ++ [c] := ⟨l.dropLast, l.getLast h0, (List.dropLast_concat_getLast h0).symm⟩
    have hc := hd c (by simp)
    simp only [isDig, Bool.and_eq_true, decide_eq_true_eq] at hc
    have hc2 : UInt8.ofNat (48 + (c.toNat - 48)) = c := by rw [show 48 + (c.toNat - 48) = c.toNat by omega]; simp
    rw [numV_snoc]
    by_cases hm : m = []
    · subst hm
      rw [show numV [] = 0 from rfl, Nat.zero_mul, Nat.zero_add, dec_small (by omega), hc2]; rfl
    · have hml : 0 < m.length := List.length_pos_iff.2 hm
      have hhm : m.head? ≠ some 48 := by
        intro e
        have := hh (by cases m with | nil => exact absurd rfl hm | cons x m => simpa using e)
        rw [List.length_append, List.length_singleton] at this; omega
      have ihm := ih hm (fun c hc => hd c (by simp [hc])) (fun e => absurd e hhm) (by simp at hn; omega)
      have hpos : 0 < numV m := by
        rcases Nat.eq_zero_or_pos (numV m) with h | h
        · rw [h, dec_small (by omega)] at ihm
          rw [← ihm] at hhm
          exact absurd rfl hhm
        · exact h
      rw [dec_big (by omega), show (numV m * 10 + (c.toNat - 48)) / 10 = numV m by omega, ihm, show (numV m * 10 + (c.toNat - 48)) % 10 = c.toNat - 48 by omega, hc2]
/-- What Join makes of rows that nothing stands between. -/
theorem join_empty (xs : List (List UInt8)) : join xs [] = xs.flatten := by
  unfold join
  induction xs with
  | nil => rfl
  | cons x xs ih =>
    cases xs with
    | nil => simp [List.intercalate]
    | cons y ys =>
      simp only [List.intercalate, List.intersperse, List.flatten_cons] at ih ⊢
      rw [ih]; simp
theorem dec_len_bound {u k : Nat} (h : u < 2 ^ k) (hk : 1 ≤ k) : (decDigits u).length ≤ k := by
  rw [decDigits_length]
  by_cases h0 : u < 10
  · rw [nDigits_small h0]; exact hk
  · obtain ⟨d, hd⟩ : ∃ d, nDigits u = d + 1 := ⟨nDigits u - 1, by have := nDigits_pos u; omega⟩
    rcases Nat.lt_or_ge k (d + 1) with hlt | hge
    · exfalso
      have h1 : 10 ^ d ≤ u := by
        rcases Nat.lt_or_ge u (10 ^ d) with h2 | h2
        · exfalso
          have : ∀ (j v : Nat), v < 10 ^ j → 1 ≤ j → nDigits v ≤ j := by
            intro j
            induction j with
            | zero => omega
            | succ j ih =>
              intro v hv _
              by_cases hv0 : v < 10
              · rw [nDigits_small hv0]; omega
              · rw [nDigits_big hv0]
                rw [Nat.pow_succ] at hv
                have hj : 1 ≤ j := by
                  rcases Nat.eq_zero_or_pos j with e | e
                  · subst e; simp at hv; omega
                  · exact e
                have := ih (v / 10) (by omega) hj
                omega
          have hd1 : 1 ≤ d := by
            rcases Nat.eq_zero_or_pos d with e | e
            · subst e; simp at h2; omega
            · exact e
          have := this d u h2 hd1
          omega
        · exact h2
      have h2 : 2 ^ d ≤ 10 ^ d := Nat.pow_le_pow_left (by omega) d
      have h3 : 2 ^ k ≤ 2 ^ d := Nat.pow_le_pow_right (by omega) (by omega)
      omega
    · omega
end Go.Cal
