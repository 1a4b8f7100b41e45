/- Plain: how far a number's digits go. Conditions: none. -/
/- Plain: bounds of what is told; texts that are one number. Conditions: none. -/
/- Plain: the pattern of a number, and its laws. Conditions: none. -/
/- Plain: sizes between the boundaries of a magnitude are rounded to it; the shortest digits, by steps. Conditions: none. -/
/- Plain: how digits are written, and what digits a text has (chapter 12). Conditions: none. -/
/- Plain: how digits are written, and what digits a text has, second part. Conditions: none. -/
/- Plain: what is written is read as it is; unlike digits have unlike texts; what Scan makes of them. Conditions: none. -/
/- Plain: points and exponents of a text of digits; whole numbers of few digits. Conditions: none. -/
import Derived.Test.YtdlkfnkmdlcekaaGreatDoorTp01
import Derived.Lib.IndexMore
import Derived.Lib.AtoiAllCases
namespace Go.Cal
/-- How far the digits go, the point with them. -/
def numP (t : List UInt8) : Nat := t.length - (numR t).length
theorem numR_suffix (t : List UInt8) : numR t <:+ t := by
  unfold numR
  have h := List.dropWhile_suffix (l := t) isDig
  split
  · rename_i r e
    rw [e] at h
    exact ((List.dropWhile_suffix (l := r) isDig).trans (List.suffix_cons 46 r)).trans h
  · exact h
theorem num_pt {t r : List UInt8} (e : t.dropWhile isDig = 46 :: r) : numD t = t.takeWhile isDig ++ r.takeWhile isDig ∧ numB t = (r.takeWhile isDig).length ∧ numR t = r.dropWhile isDig ∧
    numS t = if (t.takeWhile isDig).isEmpty && (r.takeWhile isDig).isEmpty then (false, 1) else ((expS (r.dropWhile isDig)).1, (t.takeWhile isDig).length + 1 + (r.takeWhile isDig).length + (expS (r.dropWhile isDig)).2) := by
  unfold numD numB numR numS
  rw [e]
  exact ⟨rfl, rfl, rfl, rfl⟩
theorem num_np {t : List UInt8} (hne : ∀ r, t.dropWhile isDig = 46 :: r → False) : numD t = t.takeWhile isDig ∧ numB t = 0 ∧ numR t = t.dropWhile isDig ∧
    numS t = if (t.takeWhile isDig).isEmpty then (false, 0) else ((expS (t.dropWhile isDig)).1, (t.takeWhile isDig).length + (expS (t.dropWhile isDig)).2) := by
  unfold numD numB numR numS
  generalize t.takeWhile isDig = a
  generalize t.dropWhile isDig = x at hne ⊢
  match x, hne with
  | [], _ => exact ⟨rfl, rfl, rfl, rfl⟩
  | c :: s, hne =>
    refine ⟨?_, ?_, ?_, ?_⟩
    all_goals
      split
      · rename_i r e
        exact (hne r e).elim
      · rfl
theorem numS_eq (t : List UInt8) : numS t = if numD t = [] then (false, numP t) else ((expS (numR t)).1, numP t + (expS (numR t)).2) := by
  have hsp := congrArg List.length (span_split t)
  rw [List.length_append] at hsp
  unfold numP
  by_cases hp : ∃ r, t.dropWhile isDig = 46 :: r
  · obtain ⟨r, e⟩ := hp
    obtain ⟨h1, h2, h3, h4⟩ := num_pt e
    rw [h4, h1, h3]
    have hsp2 := congrArg List.length (span_split r)
    rw [List.length_append] at hsp2
    rw [e, List.length_cons] at hsp
    by_cases h : t.takeWhile isDig ++ r.takeWhile isDig = []
    · obtain ⟨g1, g2⟩ := List.append_eq_nil_iff.1 h
      rw [g1, List.length_nil] at hsp
      rw [g2, List.length_nil] at hsp2
      rw [if_pos h, g1, g2]
      exact Prod.ext rfl (by show 1 = _ - _; omega)
    · rw [if_neg h]
      have : ((t.takeWhile isDig).isEmpty && (r.takeWhile isDig).isEmpty) = false := by
        rw [Bool.and_eq_false_iff]
        by_cases g : t.takeWhile isDig = []
        · right
          simp only [g, List.nil_append] at h
          simpa using h
        · left
          simpa using g
      rw [this]
      exact Prod.ext rfl (by show _ + 1 + _ + _ = _ - _ + _; omega)
  · obtain ⟨h1, h2, h3, h4⟩ := num_np (fun r e => hp ⟨r, e⟩)
    rw [h4, h1, h3]
    by_cases h : t.takeWhile isDig = []
    · rw [if_pos h]
      rw [h, List.length_nil] at hsp
      rw [h]
      exact Prod.ext rfl (by show 0 = _ - _; omega)
    · rw [if_neg h]
      have : (t.takeWhile isDig).isEmpty = false := by simpa using h
      rw [this]
      exact Prod.ext rfl (by show _ + _ = _ - _ + _; omega)
theorem itemV_neg (neg : Bool) (ds : List UInt8) (k : Int) : itemV neg ds k = ⟨(itemV false ds k).kind, neg, (itemV false ds k).d, (itemV false ds k).k, (itemV false ds k).big, (itemV false ds k).cut⟩ := by
  unfold itemV
  simp only
  split
  · rfl
  · split
    · rfl
    · split
      · rfl
      · split <;> rfl
theorem expV_bound (C : Nat) (t : List UInt8) : -(C : Int) ≤ expV C t ∧ expV C t ≤ (C : Int) := by
  have h : ∀ r, expM C r ≤ C := fun r => by unfold expM; omega
  match t with
  | [] => exact ⟨by show _ ≤ (0 : Int); omega, by show (0 : Int) ≤ _; omega⟩
  | [_] => exact ⟨by show _ ≤ (0 : Int); omega, by show (0 : Int) ≤ _; omega⟩
  | e :: c :: r =>
    have h1 := h r
    have h2 := h (c :: r)
    rw [expV_cons]
    split
    · omega
    · split <;> omega
theorem numDB_le (t : List UInt8) : (numD t).length ≤ t.length ∧ numB t ≤ t.length := by
  have hsp := congrArg List.length (span_split t)
  rw [List.length_append] at hsp
  by_cases hp : ∃ r, t.dropWhile isDig = 46 :: r
  · obtain ⟨r, e⟩ := hp
    obtain ⟨h1, h2, _⟩ := num_pt e
    have hsp2 := congrArg List.length (span_split r)
    rw [List.length_append] at hsp2
    rw [e, List.length_cons] at hsp
    rw [h1, h2, List.length_append]
    omega
  · obtain ⟨h1, h2, _⟩ := num_np (fun r e => hp ⟨r, e⟩)
    rw [h1, h2]
    omega
theorem numD_le (t : List UInt8) : (numD t).length ≤ t.length := (numDB_le t).1
theorem numB_le (t : List UInt8) : numB t ≤ t.length := (numDB_le t).2
end Go.Cal
namespace Go.Cal
theorem snoc_of {l : List UInt8} (h : l ≠ []) : ∃ r c, l = r ++ [c] := ⟨l.dropLast, l.getLast h, (List.dropLast_concat_getLast h).symm⟩
/-- A number as text. -/
def numT (n : Int) : List UInt8 := if n < 0 then 45 :: Lib.decDigits n.natAbs else Lib.decDigits n.natAbs
theorem expT_num {e : UInt8} (he : e = 101 ∨ e = 69) (n : Int) : ExpT (e :: numT n) := by
  unfold numT
  split
  · exact ExpT.sign he (.inr rfl) (dec_digs _) (dec_ne _)
  · exact ExpT.plain he (dec_digs _) (dec_ne _)
theorem expV_num {C : Nat} (e : UInt8) (n : Int) (h : n.natAbs ≤ C) : expV C (e :: numT n) = n := by
  unfold numT
  split
  · rw [expV_less (dec_digs _), numV_dec]
    omega
  · rw [expV_plain (dec_digs _) (dec_ne _), numV_dec]
    omega
section Same
variable (S : List UInt8) (hS : ∀ c ∈ S, isDig c = true)
include hS
end Same
section Case
variable (W P : List UInt8) (hW : ∀ c ∈ W, isDig c = true) (hP : ∀ c ∈ P, isDig c = true)
include hW hP
end Case
end Go.Cal
namespace Go.Cal
/-- Is a size P / Q to be rounded to a magnitude of a form, or a lesser one? -/
def wiF (id : Int) (P Q key : Nat) : Bool := wiN (fK id).toNat (fW id).toNat (fM id).toNat (fB id).toNat P Q key
/-- The magnitude of a size, where it is not too large. -/
def nearK (id : Int) (neg : Bool) (P Q : Nat) : Nat :=
  if fK id = 1 ∧ seek (wiF id P Q) (mostV id neg).toNat (fW id).toNat 0 = 0 ∧ P ≠ 0 then 1 else seek (wiF id P Q) (mostV id neg).toNat (fW id).toNat 0
def overB (id : Int) (neg : Bool) (P Q : Nat) : Bool := !wiF id P Q (mostV id neg).toNat
/-- The pattern of a number; what is wrong beside it. -/
def roundE (id mode : Int) : Int := if id < 1 ∨ 15 ≤ id then 3 else if mode ≠ 1 ∧ mode ≠ 2 then 1 else 0
def roundP (id mode : Int) (neg : Bool) (P Q : Nat) : Int :=
  if fK id = 4 ∧ (neg = true ∨ P = 0) then fN id
  else if overB id neg P Q = true then largeV id mode neg
  else patV id neg (nearK id neg P Q)
theorem fo_nat {id : Int} (h1 : 1 ≤ id) (h2 : id < 15) (neg : Bool) : (fB id).toNat ≤ 1900 ∧ (fB id).toNat + (fM id).toNat ≤ 1900 ∧ 2 ≤ (fW id).toNat ∧ (fW id).toNat ≤ 300 ∧ ((fK id).toNat = 1 ↔ fK id = 1) ∧ ((fK id).toNat = 1 → 2 * (mostV id neg).toNat + 1 < 2 ^ (fW id).toNat) ∧ (mostV id neg).toNat < 2 ^ (fW id).toNat := by
  rcases id_cases h1 h2 with rfl | rfl | rfl | rfl | rfl | rfl | rfl | rfl | rfl | rfl | rfl | rfl | rfl | rfl <;> cases neg <;> decide +kernel
theorem wiF_mono {id : Int} {neg : Bool} (h1 : 1 ≤ id) (h2 : id < 15) {P Q i j : Nat} (hq : 0 < Q) (h : i ≤ j) (hj : j ≤ (mostV id neg).toNat) (hi : wiF id P Q i = true) : wiF id P Q j = true := by
  obtain ⟨b1, _, b3, b4, _, b6, _⟩ := fo_nat h1 h2 neg
  exact wiN_mono hq (fun hk => ⟨by omega, b4, by have := b6 hk; omega⟩) b1 h hi
/-- The same number otherwise written is rounded alike. -/
theorem wiF_cross {id : Int} {P Q P' Q' : Nat} (hq : 0 < Q) (hq' : 0 < Q') (h : P * Q' = P' * Q) (key : Nat) : wiF id P Q key = wiF id P' Q' key := by
  unfold wiF wiN
  generalize uN (fK id).toNat (fW id).toNat (fM id).toNat (fB id).toNat (2 * key + 1) = u
  have hl : (P * sc2 < u * Q) ↔ (P' * sc2 < u * Q') := by
    have e1 : P * sc2 * Q' = P' * sc2 * Q := by rw [Nat.mul_right_comm, h, Nat.mul_right_comm]
    constructor
    · intro hh
      have h3 := Nat.mul_lt_mul_of_pos_right hh hq'
      rw [e1, Nat.mul_right_comm u] at h3
      exact Nat.lt_of_mul_lt_mul_right h3
    · intro hh
      have h3 := Nat.mul_lt_mul_of_pos_right hh hq
      rw [← e1, Nat.mul_right_comm u] at h3
      exact Nat.lt_of_mul_lt_mul_right h3
  have he : (P * sc2 = u * Q) ↔ (P' * sc2 = u * Q') := by
    have e1 : P * sc2 * Q' = P' * sc2 * Q := by rw [Nat.mul_right_comm, h, Nat.mul_right_comm]
    constructor
    · intro hh
      have h3 : P' * sc2 * Q = u * Q' * Q := by rw [← e1, hh, Nat.mul_right_comm]
      exact Nat.eq_of_mul_eq_mul_right hq h3
    · intro hh
      have h3 : P * sc2 * Q' = u * Q * Q' := by rw [e1, hh, Nat.mul_right_comm]
      exact Nat.eq_of_mul_eq_mul_right hq' h3
  simp only [hl, he]
theorem seek_cong {w1 w2 : Nat → Bool} (h : ∀ k, w1 k = w2 k) (most : Nat) : ∀ b key, seek w1 most b key = seek w2 most b key := by
  rw [show w1 = w2 from funext h]; intros; rfl
theorem roundP_cross {id mode : Int} {neg : Bool} {P Q P' Q' : Nat} (hq : 0 < Q) (hq' : 0 < Q') (h : P * Q' = P' * Q) : roundP id mode neg P Q = roundP id mode neg P' Q' := by
  have hw := wiF_cross (id := id) hq hq' h
  have hz : P = 0 ↔ P' = 0 := by
    constructor
    · intro h0
      rw [h0, Nat.zero_mul] at h
      rcases Nat.mul_eq_zero.1 h.symm with h3 | h3
      · exact h3
      · omega
    · intro h0
      rw [h0, Nat.zero_mul] at h
      rcases Nat.mul_eq_zero.1 h with h3 | h3
      · exact h3
      · omega
  have hs := fun m b k => seek_cong hw m b k
  unfold roundP overB nearK
  simp only [hw, hs, hz, ne_eq]
theorem nearK_le (id : Int) (neg : Bool) (P Q : Nat) : (nearK id neg P Q : Int) ≤ mostV id neg := by
  have hm := mostV_bnd id neg
  have hs := seek_le (wi := wiF id P Q) (most := (mostV id neg).toNat) (fW id).toNat 0 (Nat.zero_le _)
  unfold nearK
  split <;> omega
/-- A magnitude's own number is rounded to it. -/
theorem round_own {id mode : Int} {neg : Bool} {P Q key : Nat} (hE : mostE id neg = 0) (hq : 0 < Q) (hk : (key : Int) ≤ mostV id neg) (h0 : fK id = 4 ∨ 0 < key ∨ P = 0) (h4 : fK id = 4 → 0 < P)
    (hP : P * sc2 = uN (fK id).toNat (fW id).toNat (fM id).toNat (fB id).toNat (2 * key) * Q) : roundP id mode neg P Q = patV id neg key := by
  obtain ⟨h1, h2, h3⟩ := mostE_zero hE
  obtain ⟨b1, _, b3, b4, b5, b6, b7⟩ := fo_nat h1 h2 neg
  have hm := mostV_bnd id neg
  have up : ∀ i j, i < j → j ≤ 2 * (mostV id neg).toNat + 1 → uN (fK id).toNat (fW id).toNat (fM id).toNat (fB id).toNat i * Q < uN (fK id).toNat (fW id).toNat (fM id).toNat (fB id).toNat j * Q := fun i j hij hj =>
    Nat.mul_lt_mul_of_pos_right (uN_mono (fun hk => ⟨by omega, b4, by have := b6 hk; omega⟩) b1 hij) hq
  have ha0 : P * sc2 < uN (fK id).toNat (fW id).toNat (fM id).toNat (fB id).toNat (2 * key + 1) * Q := by
    have hu := up (2 * key) (2 * key + 1) (Nat.lt_succ_self _) (by clear hP; omega)
    rw [hP]
    exact hu
  have hl0 : ∀ i, i < key → uN (fK id).toNat (fW id).toNat (fM id).toNat (fB id).toNat (2 * i + 1) * Q < P * sc2 := by
    intro i hi
    have hu := up (2 * i + 1) (2 * key) (by clear hP ha0; omega) (by clear hP ha0; omega)
    rw [hP]
    exact hu
  clear hP
  have ha : wiF id P Q key = true := by
    unfold wiF wiN
    simp only [Bool.or_eq_true, decide_eq_true_eq]
    exact .inl ha0
  have hl : ∀ i, i < key → wiF id P Q i = false := by
    intro i hi
    have := hl0 i hi
    unfold wiF wiN
    simp only [Bool.or_eq_false_iff, Bool.and_eq_false_iff, decide_eq_false_iff_not]
    exact ⟨Nat.not_lt.2 (Nat.le_of_lt this), .inl (Nat.ne_of_gt this)⟩
  clear ha0 hl0
  have hmost : wiF id P Q (mostV id neg).toNat = true := wiF_mono (neg := neg) h1 h2 hq (by omega) (Nat.le_refl _) ha
  have hseek : seek (wiF id P Q) (mostV id neg).toNat (fW id).toNat 0 = key := by
    have hmo : ∀ i j, i ≤ j → (fun k => wiF id P Q (min k (mostV id neg).toNat)) i = true → (fun k => wiF id P Q (min k (mostV id neg).toNat)) j = true := fun i j hij hi =>
      wiF_mono (neg := neg) h1 h2 hq (by omega) (Nat.min_le_right _ _) hi
    have e : ∀ b k, k ≤ (mostV id neg).toNat → seek (wiF id P Q) (mostV id neg).toNat b k = seek (fun k => wiF id P Q (min k (mostV id neg).toNat)) (mostV id neg).toNat b k := by
      intro b
      induction b with
      | zero => intros; unfold seek; rfl
      | succ b ih =>
        intro k hk
        have hp := Nat.two_pow_pos b
        unfold seek
        by_cases hb : k + 2 ^ b ≤ (mostV id neg).toNat
        · rw [show min (k + 2 ^ b - 1) (mostV id neg).toNat = k + 2 ^ b - 1 by omega]
          refine ih _ ?_
          split <;> omega
        · rw [if_neg (fun hh => hb hh.1), if_neg (fun hh => hb hh.1)]
          exact ih _ hk
    rw [e _ _ (Nat.zero_le _)]
    refine seek_is hmo (by show wiF id P Q (min key _) = true; rw [Nat.min_eq_left (by omega)]; exact ha) (fun i hi => by show wiF id P Q (min i _) = false; rw [Nat.min_eq_left (by omega)]; exact hl i hi) (by omega) _ _ (Nat.zero_le _) (by omega)
  unfold roundP
  rw [if_neg (by
    rintro ⟨hk4, hn⟩
    rcases hn with hn | hn
    · exact h3 hn hk4
    · have := h4 hk4; omega), if_neg (by unfold overB; rw [hmost]; decide)]
  unfold nearK
  rw [hseek, if_neg (by
    rintro ⟨ha, hb, hc⟩
    rcases h0 with h0 | h0 | h0
    · omega
    · omega
    · exact hc h0)]
end Go.Cal
namespace Go.Cal
/-- The search finds the least magnitude behind which a boundary is not below. -/
theorem seek_wi {id : Int} {neg : Bool} {P Q a : Nat} (h1 : 1 ≤ id) (h2 : id < 15) (hq : 0 < Q) (ha : wiF id P Q a = true) (hl : ∀ i, i < a → wiF id P Q i = false) (hle : a ≤ (mostV id neg).toNat) : seek (wiF id P Q) (mostV id neg).toNat (fW id).toNat 0 = a := by
  obtain ⟨b1, _, b3, b4, b5, b6, b7⟩ := fo_nat h1 h2 neg
  have hmo : ∀ i j, i ≤ j → (fun k => wiF id P Q (min k (mostV id neg).toNat)) i = true → (fun k => wiF id P Q (min k (mostV id neg).toNat)) j = true := fun i j hij hi =>
    wiF_mono (neg := neg) h1 h2 hq (by omega) (Nat.min_le_right _ _) hi
  have e : ∀ b k, k ≤ (mostV id neg).toNat → seek (wiF id P Q) (mostV id neg).toNat b k = seek (fun k => wiF id P Q (min k (mostV id neg).toNat)) (mostV id neg).toNat b k := by
    intro b
    induction b with
    | zero => intros; unfold seek; rfl
    | succ b ih =>
      intro k hk
      have hp := Nat.two_pow_pos b
      unfold seek
      by_cases hb : k + 2 ^ b ≤ (mostV id neg).toNat
      · rw [show min (k + 2 ^ b - 1) (mostV id neg).toNat = k + 2 ^ b - 1 by omega]
        refine ih _ ?_
        split <;> omega
      · rw [if_neg (fun hh => hb hh.1), if_neg (fun hh => hb hh.1)]
        exact ih _ hk
  rw [e _ _ (Nat.zero_le _)]
  exact seek_is hmo (by show wiF id P Q (min a _) = true; rw [Nat.min_eq_left (by omega)]; exact ha) (fun i hi => by show wiF id P Q (min i _) = false; rw [Nat.min_eq_left (by omega)]; exact hl i hi) (by omega) _ _ (Nat.zero_le _) (by omega)
/-- A size that lies where a magnitude's sizes lie is rounded to it. -/
theorem round_at {id mode : Int} {neg : Bool} {P Q key : Nat} (hE : mostE id neg = 0) (hq : 0 < Q) (hp : 0 < P) (hk : (key : Int) ≤ mostV id neg) (hk1 : fK id = 1 → 0 < key)
    (hlow : (fK id = 1 ∧ key = 1) ∨ ∀ i, i < key → wiF id P Q i = false)
    (hhigh : wiF id P Q key = true ∨ ((key : Int) = mostV id neg ∧ largeV id mode neg = patV id neg (mostV id neg))) : roundP id mode neg P Q = patV id neg key := by
  obtain ⟨h1, h2, h3⟩ := mostE_zero hE
  have hm := mostV_bnd id neg
  have h4 : ¬ (fK id = 4 ∧ (neg = true ∨ P = 0)) := by
    rintro ⟨hk4, hn⟩
    rcases hn with hn | hn
    · exact h3 hn hk4
    · omega
  unfold roundP
  rw [if_neg h4]
  by_cases hw : wiF id P Q (mostV id neg).toNat = true
  · have hw1 : wiF id P Q key = true := by
      rcases hhigh with h | ⟨h, _⟩
      · exact h
      · rw [← h] at hw; simpa using hw
    rw [if_neg (by unfold overB; rw [hw]; decide)]
    rcases hlow with ⟨k1, k2⟩ | hl
    · subst k2
      unfold nearK
      by_cases h0 : wiF id P Q 0 = true
      · rw [seek_wi h1 h2 hq h0 (fun i hi => by omega) (Nat.zero_le _), if_pos ⟨k1, rfl, by omega⟩]
      · rw [seek_wi h1 h2 hq hw1 (fun i hi => by obtain rfl : i = 0 := by omega
                                                 simpa using h0) (by omega), if_neg (fun h => by have := h.2.1; omega)]
    · unfold nearK
      rw [seek_wi h1 h2 hq hw1 hl (by omega), if_neg (fun h => by have := hk1 h.1; have := h.2.1; omega)]
  · rcases hhigh with h | ⟨h, hL⟩
    · exact absurd (wiF_mono (neg := neg) h1 h2 hq (by omega) (Nat.le_refl _) h) hw
    · have hw' : wiF id P Q (mostV id neg).toNat = false := by simpa using hw
      rw [if_pos (by unfold overB; rw [hw']; rfl), hL, h]
/-- The sizes that a magnitude stands for: between two boundaries; the number 0 stands for none. -/
structure Itv where
  lowN : Nat
  lowT : Int
  highN : Nat
  highT : Int
  even : Bool
/-- Does a number of tens lie in it? -/
def itvHas (i : Itv) (d : Nat) (k : Int) : Bool :=
  (decide (0 < exC d k k i.lowN i.lowT 0) || (exC d k k i.lowN i.lowT 0 == 0 && i.even && decide (0 < i.lowN))) &&
  (decide ((if 0 < i.highN then exC d k k i.highN i.highT 0 else -1) < 0) || ((if 0 < i.highN then exC d k k i.highN i.highT 0 else -1) == 0 && i.even))
/-- How often a power of ten goes into a number, and what is left. -/
def flA (m : Nat) (e k : Int) : Nat := exP m (e - k) (-k)
def flB (e k : Int) : Nat := exP 1 (k - e) k
def flQ (m : Nat) (e k : Int) : Nat := flA m e k / flB e k
def flR (m : Nat) (e k : Int) : Int := if flA m e k % flB e k = 0 then 0 else 2 + cmpV ((2 * (flA m e k % flB e k) : Nat) : Int) ((flB e k : Nat) : Int)
/-- The one of two neighbours that is in an interval, and nearer. -/
def nigV (i : Itv) (m : Nat) (e k : Int) : Option Nat :=
  if itvHas i (flQ m e k) k = true ∧ (0 < flR m e k ∧ itvHas i (flQ m e k + 1) k = true) then (if 2 < flR m e k ∨ (flR m e k = 2 ∧ flQ m e k % 2 = 1) then some (flQ m e k + 1) else some (flQ m e k))
  else if 0 < flR m e k ∧ itvHas i (flQ m e k + 1) k = true then some (flQ m e k + 1)
  else if itvHas i (flQ m e k) k = true then some (flQ m e k) else none
theorem nearV_some {i : Itv} {m d : Nat} {e k : Int} (h : nigV i m e k = some d) : itvHas i d k = true ∧ (d = flQ m e k ∨ (d = flQ m e k + 1 ∧ 0 < flR m e k)) := by
  unfold nigV at h
  split at h
  · rename_i hb
    split at h
    · injection h with h; subst h; exact ⟨hb.2.2, .inr ⟨rfl, hb.2.1⟩⟩
    · injection h with h; subst h; exact ⟨hb.1, .inl rfl⟩
  · split at h
    · rename_i hb; injection h with h; subst h; exact ⟨hb.2, .inr ⟨rfl, hb.1⟩⟩
    · split at h
      · rename_i hb; injection h with h; subst h; exact ⟨hb, .inl rfl⟩
      · cases h
/-- From a power of ten down: the first one where one is. -/
def seekV (i : Itv) (m : Nat) (e : Int) : Nat → Int → Nat × Int
  | 0, k => (0, k)
  | f + 1, k => match nigV i m e k with
    | some d => (d, k)
    | none => seekV i m e f (k - 1)
theorem seekV_is {i : Itv} {m : Nat} {e : Int} : ∀ (f : Nat) (k kx : Int), k - kx < f → 0 < f → (∀ j, j ≤ kx → nigV i m e j ≠ none) → ∃ d k', seekV i m e f k = (d, k') ∧ nigV i m e k' = some d ∧ k' ≤ k ∧ min k kx ≤ k'
  | 0, k, kx, _, h0, _ => by omega
  | f + 1, k, kx, hf, _, hx => by
    cases hn : nigV i m e k with
    | some d => exact ⟨d, k, by unfold seekV; rw [hn], hn, Int.le_refl _, by omega⟩
    | none =>
      have hk : kx < k := Classical.byContradiction fun h => hx k (by omega) hn
      obtain ⟨d, k', h1, h2, h3, h4⟩ := seekV_is f (k - 1) kx (by omega) (by omega) hx
      exact ⟨d, k', by unfold seekV; rw [hn]; exact h1, h2, by omega, by omega⟩
/-- Without the noughts at the end. -/
def stripV : Nat → Nat → Int → Nat × Int
  | 0, d, k => (d, k)
  | f + 1, d, k => if d = 0 ∨ d % 10 ≠ 0 then (d, k) else stripV f (d / 10) (k + 1)
theorem stripV_is : ∀ (f d : Nat) (k : Int), 0 < d → d < 10 ^ f → ∃ z : Nat, stripV f d k = (d / 10 ^ z, k + z) ∧ d / 10 ^ z * 10 ^ z = d ∧ d / 10 ^ z % 10 ≠ 0 ∧ z < f
  | 0, d, k, h0, h => by omega
  | f + 1, d, k, h0, h => by
    unfold stripV
    by_cases hd : d % 10 ≠ 0
    · rw [if_pos (.inr hd)]
      exact ⟨0, by simp, by simp, by simpa using hd, by omega⟩
    · rw [if_neg (by omega)]
      have hm : d / 10 * 10 = d := by omega
      obtain ⟨z, e1, e2, e3, e4⟩ := stripV_is f (d / 10) (k + 1) (by omega) (by rw [Nat.pow_succ] at h; omega)
      have hq : d / 10 / 10 ^ z = d / 10 ^ (z + 1) := by rw [Nat.div_div_eq_div_mul, Nat.pow_succ, Nat.mul_comm]
      rw [hq] at e1 e2 e3
      refine ⟨z + 1, ?_, ?_, e3, by omega⟩
      · rw [e1]; congr 1; push_cast; omega
      · calc d / 10 ^ (z + 1) * 10 ^ (z + 1) = d / 10 ^ (z + 1) * 10 ^ z * 10 := by rw [Nat.mul_assoc, ← Nat.pow_succ]
          _ = d := by rw [e2, hm]
theorem itv_pos {i : Itv} {d : Nat} {k : Int} (h : itvHas i d k = true) : 0 < d := by
  rcases Nat.eq_zero_or_pos d with h0 | h0
  · subst h0
    exfalso
    unfold itvHas at h
    rw [Bool.and_eq_true, exC_zero_l] at h
    have h1 := h.1
    rcases Nat.eq_zero_or_pos i.lowN with hl | hl
    · rw [hl] at h1
      have : cmpV 0 ((0 : Nat) : Int) = 0 := rfl
      rw [this] at h1
      simp at h1
    · rw [cmpV_lt (a := 0) (b := (i.lowN : Int)) (by omega)] at h1
      simp at h1
  · exact h0
/-- What is left over nothing: the number itself. -/
theorem fl_exact {m : Nat} {e k : Int} (h : flA m e k % flB e k = 0) : exP (flQ m e k) k k * exQ e 0 = exP m e 0 * exQ k k := by
  have hB : 0 < flB e k := exP_pos _ _ (by decide)
  have hAB : flQ m e k * flB e k = flA m e k := by
    unfold flQ
    exact Nat.div_mul_cancel (Nat.dvd_of_mod_eq_zero h)
  have c1 := exP_cross (flQ m e k) k k e 0
  have c2 := exP_cross m e 0 k k
  rw [c1, c2]
  have e1 : exP (flQ m e k) (k - e) (k - 0) = flQ m e k * flB e k := by
    unfold flB exP
    rw [Nat.one_mul, Int.sub_zero, Nat.mul_assoc]
  have e2 : exP m (e - k) (0 - k) = flA m e k := by unfold flA; rw [Int.zero_sub]
  rw [e1, e2, hAB]
  congr 3 <;> omega
end Go.Cal
namespace Go.Cal
open Go.Lib
/-- What stands ahead of the first c, what behind it, and is there one. -/
def cutC (c : UInt8) (l : List UInt8) : List UInt8 × List UInt8 × Bool := (l.takeWhile (· != c), (l.dropWhile (· != c)).drop 1, l.contains c)
theorem prefix_one (c b : UInt8) (l : List UInt8) : [c].isPrefixOf (b :: l) = (c == b) := by simp [List.isPrefixOf]
theorem cut_hit {l : List UInt8} {sep : List UInt8} (h : 0 ≤ index l sep) : cut l sep = (l.take (index l sep).toNat, l.drop ((index l sep).toNat + sep.length), true) := by unfold cut; rw [if_pos h]
theorem cut_miss {l : List UInt8} {sep : List UInt8} (h : ¬ 0 ≤ index l sep) : cut l sep = (l, [], false) := by unfold cut; rw [if_neg h]
theorem cut_one (c : UInt8) : ∀ l, cut l [c] = cutC c l
  | [] => by
    have h : ¬ 0 ≤ index [] [c] := by unfold index; simp
    rw [cut_miss h]; rfl
  | b :: l => by
    have ih := cut_one c l
    have hi : index (b :: l) [c] = if c == b then 0 else if index l [c] == -1 then -1 else index l [c] + 1 := by
      show (if [c].isPrefixOf (b :: l) then (0 : Int) else _) = _
      rw [prefix_one]
    by_cases hb : b = c
    · subst hb
      have h0 : index (b :: l) [b] = 0 := by rw [hi]; simp
      rw [cut_hit (by rw [h0]; exact Int.le_refl _), h0]
      unfold cutC
      simp
    · have hcb : (c == b) = false := by simpa using fun e : c = b => hb e.symm
      rw [hcb] at hi
      simp only [Bool.false_eq_true, if_false] at hi
      have hbc : (b != c) = true := by simpa using hb
      have hcc : cutC c (b :: l) = (b :: (cutC c l).1, (cutC c l).2.1, (cutC c l).2.2) := by
        unfold cutC
        rw [List.takeWhile_cons_of_pos (p := (· != c)) hbc, List.dropWhile_cons_of_pos (p := (· != c)) hbc]
        have hne : ¬ c = b := fun e => hb e.symm
        simp [hne]
      rw [hcc]
      have hge := index_ge l [c]
      by_cases hm : index l [c] = -1
      · have h1 : index (b :: l) [c] = -1 := by rw [hi, hm]; simp
        rw [cut_miss (by rw [h1]; decide)]
        rw [cut_miss (by rw [hm]; decide)] at ih
        rw [← ih]
      · have h1 : index (b :: l) [c] = index l [c] + 1 := by rw [hi, if_neg (by simpa using hm)]
        rw [cut_hit (by omega), h1, show (index l [c] + 1).toNat = (index l [c]).toNat + 1 by omega]
        rw [cut_hit (by omega)] at ih
        rw [← ih]
        simp
/-- What has no c is not cut; what begins without one, is. -/
theorem take_none {c : UInt8} : ∀ {l : List UInt8}, c ∉ l → l.takeWhile (· != c) = l ∧ l.dropWhile (· != c) = []
  | [], _ => ⟨rfl, rfl⟩
  | x :: l, h => by
    have hx : (x != c) = true := by simpa using fun e : x = c => h (by simp [e])
    obtain ⟨h1, h2⟩ := take_none (l := l) fun e : c ∈ l => h (List.mem_cons_of_mem _ e)
    rw [List.takeWhile_cons_of_pos (p := (· != c)) hx, List.dropWhile_cons_of_pos (p := (· != c)) hx, h1, h2]
    exact ⟨rfl, rfl⟩
theorem cutC_none {c : UInt8} {l : List UInt8} (h : c ∉ l) : cutC c l = (l, [], false) := by
  unfold cutC
  obtain ⟨h1, h2⟩ := take_none h
  rw [h1, h2]
  simpa using h
theorem cutC_some {c : UInt8} {l r : List UInt8} (h : c ∉ l) : cutC c (l ++ c :: r) = (l, r, true) := by
  unfold cutC
  have h0 : ∀ x ∈ l, (x != c) = true := fun x hx => by simpa using fun e : x = c => h (e ▸ hx)
  rw [List.takeWhile_append_of_pos h0, List.dropWhile_append_of_pos h0]
  simp
/-- A numeral is read as the number that it is. -/
theorem uint_digs : ∀ (l : List UInt8) (acc : Nat), (∀ c ∈ l, isDig c = true) → acc * 10 ^ l.length + numV l < 1844674407370955162 → parseUint10 acc l = .ok (acc * 10 ^ l.length + numV l)
  | [], acc, _, _ => by simp [parseUint10, numV]
  | c :: r, acc, hd, hb => by
    have hc := hd c (by simp)
    unfold isDig at hc
    simp only [Bool.and_eq_true, decide_eq_true_eq] at hc
    have hn : numV (c :: r) = (c.toNat - 48) * 10 ^ r.length + numV r := by
      have := numV_append [c] r
      rw [List.singleton_append] at this
      rw [this]; simp [numV]
    have hs : acc * 10 ^ (c :: r).length + numV (c :: r) = (acc * 10 + (c.toNat - 48)) * 10 ^ r.length + numV r := by
      rw [hn, List.length_cons, Nat.pow_succ, Nat.add_mul, Nat.add_assoc, Nat.mul_comm (10 ^ r.length) 10, ← Nat.mul_assoc]
    rw [hs] at hb ⊢
    have hp : 0 < 10 ^ r.length := Nat.pow_pos (by decide)
    have h1 : (acc * 10 + (c.toNat - 48)) * 1 ≤ (acc * 10 + (c.toNat - 48)) * 10 ^ r.length := Nat.mul_le_mul_left _ hp
    unfold parseUint10
    rw [if_pos hc, if_neg (by omega), if_neg (by omega)]
    exact uint_digs r _ (fun x hx => hd x (by simp [hx])) hb
theorem mag_dec {u : Nat} (hu : u < 1844674407370955162) : parseMag (decDigits u) = .ok u := by
  unfold parseMag
  rw [if_neg (dec_ne u)]
  have := uint_digs (decDigits u) 0 (dec_digs u) (by rw [Nat.zero_mul, Nat.zero_add, numV_dec]; exact hu)
  rwa [Nat.zero_mul, Nat.zero_add, numV_dec] at this
theorem atoi_num {n : Int} (h : n.natAbs < 1000000) : atoiAll (numT n) = .ok n := by
  unfold numT
  by_cases h0 : n < 0
  · rw [if_pos h0, atoiAll_minus, mag_dec (by omega)]
    show (if _ then NumEnd.range else _) = _
    rw [if_neg (by omega)]
    congr 1
    omega
  · rw [if_neg h0]
    match hd : decDigits n.natAbs, dec_ne n.natAbs with
    | c :: r, _ =>
      have hc : isDig c = true := dec_digs n.natAbs c (by rw [hd]; simp)
      have h1 := hc
      unfold isDig at h1
      simp only [Bool.and_eq_true, decide_eq_true_eq] at h1
      rw [atoiAll_plain c r (by omega) (by omega), ← hd, mag_dec (by omega)]
      show (if _ then NumEnd.range else _) = _
      rw [if_neg (by omega)]
      congr 1
      omega
end Go.Cal
namespace Go.Cal
open Go.Lib
/-- The digits S, times ten to the power of k, as they are written. -/
def lyB (S : List UInt8) (k : Int) : List UInt8 :=
  if 0 ≤ k ∧ (S.length : Int) + k ≤ 21 then S ++ List.replicate k.toNat 48
  else if 0 < (S.length : Int) + k ∧ (S.length : Int) + k ≤ 21 then S.take ((S.length : Int) + k).toNat ++ 46 :: S.drop ((S.length : Int) + k).toNat
  else if -6 < (S.length : Int) + k ∧ (S.length : Int) + k ≤ 0 then 48 :: 46 :: (List.replicate (-((S.length : Int) + k)).toNat 48 ++ S)
  else if S.length = 1 then S ++ 101 :: numT ((S.length : Int) + k - 1)
  else S.take 1 ++ 46 :: (S.drop 1 ++ 101 :: numT ((S.length : Int) + k - 1))
def lyS (d : Nat) (k : Int) : List UInt8 := if d = 0 then [48] else lyB (decDigits d) k
def lyT (neg : Bool) (d : Nat) (k : Int) : List UInt8 := (if neg = true then [45] else []) ++ lyS d k
/-- Are digits right (of a number that is normal)? -/
def DRight (d : Nat) (k : Int) : Prop := (d = 0 ∧ k = 0) ∨ (0 < d ∧ d % 10 ≠ 0 ∧ (decDigits d).length ≤ 2000 ∧ -5000 ≤ k ∧ k ≤ 5000)
instance (d : Nat) (k : Int) : Decidable (DRight d k) := by unfold DRight; exact inferInstance
/-- How the text of digits is put together. -/
structure LyP (S : List UInt8) (k : Int) (pt ex : Bool) (W P : List UInt8) (k0 : Int) (a b : Nat) : Prop where
  eq : lyB S k = W ++ ((if pt = true then 46 :: P else []) ++ (if ex = true then 101 :: numT k0 else []))
  np : pt = false → P = []
  ne : ex = false → k0 = 0
  all : W ++ P = List.replicate a 48 ++ (S ++ List.replicate b 48)
  kk : k = k0 + b - P.length
  w : W ≠ []
  lo : -10000 ≤ k0 ∧ k0 ≤ 10000
  far : ex = true ↔ 21 < (S.length : Int) + k ∨ (S.length : Int) + k < -5
  point : pt = true ↔ (ex = true ∧ 1 < S.length) ∨ (ex = false ∧ k < 0)
theorem lyB_parts {S : List UInt8} {k : Int} (h0 : S ≠ []) (hl : S.length ≤ 2000) (hk : -5000 ≤ k ∧ k ≤ 5000) : ∃ pt ex W P k0 a b, LyP S k pt ex W P k0 a b := by
  have hS := List.length_pos_iff.2 h0
  obtain ⟨n, hn⟩ : ∃ n, S.length = n := ⟨_, rfl⟩
  rw [hn] at hl hS
  by_cases c1 : 0 ≤ k ∧ (n : Int) + k ≤ 21
  · refine ⟨false, false, S ++ List.replicate k.toNat 48, [], 0, 0, k.toNat, ⟨?_, fun _ => rfl, fun _ => rfl, by simp, ?_, by simp [h0], by omega, ?_, ?_⟩⟩
    · unfold lyB; rw [hn, if_pos c1]; simp
    · simp; omega
    · rw [hn]; simp; omega
    · simp; omega
  · by_cases c2 : 0 < (n : Int) + k ∧ (n : Int) + k ≤ 21
    · refine ⟨true, false, S.take ((n : Int) + k).toNat, S.drop ((n : Int) + k).toNat, 0, 0, 0, ⟨?_, by simp, fun _ => rfl, by simp, ?_, ?_, by omega, ?_, ?_⟩⟩
      · unfold lyB; rw [hn, if_neg c1, if_pos c2]; simp
      · rw [List.length_drop, hn]; omega
      · intro e
        have := congrArg List.length e
        rw [List.length_take, hn] at this
        simp only [List.length_nil] at this
        omega
      · rw [hn]; simp; omega
      · simp; omega
    · by_cases c3 : -6 < (n : Int) + k ∧ (n : Int) + k ≤ 0
      · refine ⟨true, false, [48], List.replicate (-((n : Int) + k)).toNat 48 ++ S, 0, (-((n : Int) + k)).toNat + 1, 0, ⟨?_, by simp, fun _ => rfl, ?_, ?_, by simp, by omega, ?_, ?_⟩⟩
        · unfold lyB; rw [hn, if_neg c1, if_neg c2, if_pos c3]; simp
        · rw [List.replicate_succ]; simp
        · rw [List.length_append, List.length_replicate, hn]; omega
        · rw [hn]; simp; omega
        · simp; omega
      · by_cases c4 : n = 1
        · refine ⟨false, true, S, [], (n : Int) + k - 1, 0, 0, ⟨?_, fun _ => rfl, by simp, by simp, ?_, h0, by omega, ?_, ?_⟩⟩
          · unfold lyB; rw [hn, if_neg c1, if_neg c2, if_neg c3, if_pos c4]; simp
          · simp; omega
          · rw [hn]; simp; omega
          · rw [hn]; simp; omega
        · refine ⟨true, true, S.take 1, S.drop 1, (n : Int) + k - 1, 0, 0, ⟨?_, by simp, by simp, by rw [List.take_append_drop]; simp, ?_, ?_, by omega, ?_, ?_⟩⟩
          · unfold lyB; rw [hn, if_neg c1, if_neg c2, if_neg c3, if_neg c4]; simp
          · rw [List.length_drop, hn]; omega
          · intro e
            have := congrArg List.length e
            rw [List.length_take, hn] at this
            simp only [List.length_nil] at this
            omega
          · rw [hn]; simp; omega
          · rw [hn]; simp; omega
section
variable {S W P : List UInt8} {k k0 : Int} {pt ex : Bool} {a b : Nat}
theorem LyP.digW (h : LyP S k pt ex W P k0 a b) (hd : ∀ c ∈ S, isDig c = true) : ∀ c ∈ W, isDig c = true := fun c hc => by
  have h1 : c ∈ W ++ P := List.mem_append.2 (.inl hc)
  rw [h.all] at h1
  exact dig_app (dig_zero a) (dig_app hd (dig_zero b)) c h1
theorem LyP.digP (h : LyP S k pt ex W P k0 a b) (hd : ∀ c ∈ S, isDig c = true) : ∀ c ∈ P, isDig c = true := fun c hc => by
  have h1 : c ∈ W ++ P := List.mem_append.2 (.inr hc)
  rw [h.all] at h1
  exact dig_app (dig_zero a) (dig_app hd (dig_zero b)) c h1
end
theorem dig_no {l : List UInt8} (hd : ∀ c ∈ l, isDig c = true) {c : UInt8} (hc : isDig c = false) : c ∉ l := fun h => by rw [hd c h] at hc; cases hc
theorem dec_last {d : Nat} (h : d % 10 ≠ 0) : (decDigits d).getLast? ≠ some 48 := by
  intro e
  obtain ⟨r, c, h1⟩ := snoc_of (dec_ne d)
  rw [h1, List.getLast?_concat] at e
  injection e with e
  subst e
  have h2 := numV_dec d
  rw [h1, numV_snoc] at h2
  simp at h2
  omega
/-- Digits that nat.Parse takes. -/
def pOkL (l : List UInt8) : Bool := !l.isEmpty && decide (l.length ≤ 2000) && (!(l.head? == some 48) || decide (l.length ≤ 1)) && l.all isDig
/-- What Unlay makes of a text: where none is wrong, the digits that it tries. -/
def powS (l : List UInt8) : Option Int := match atoiAll l with
  | .ok k => if max k (-k) < 20000 then some k else none
  | _ => none
def unT (l : List UInt8) : List UInt8 × Bool := match l with
  | 45 :: t => (t, true)
  | t => (t, false)
def candA (t : List UInt8) : Option Int := if (cutC 101 t).2.2 = true then powS (cutC 101 t).2.1 else some 0
def candD (t : List UInt8) : List UInt8 × List UInt8 := ((cutC 46 (cutC 101 t).1).1, (cutC 46 (cutC 101 t).1).2.1)
def candB (t : List UInt8) : Option (Nat × Int) :=
  (candA t).bind fun k0 =>
    let al := trL ((candD t).1 ++ (candD t).2)
    if trR al = [] then some (0, 0)
    else if pOkL (trR al) = true then some (numV (trR al), k0 + (((al.length : Int) - ((trR al).length : Int)) - ((candD t).2.length : Int))) else none
def unS (l : List UInt8) : Option (Bool × Nat × Int) := match candB (unT l).1 with
  | none => none
  | some (d, k) => if DRight d k ∧ lyT (unT l).2 d k = l then some ((unT l).2, d, k) else none
theorem unT_dig {l : List UInt8} (h : ∀ c r, l = c :: r → c ≠ 45) : unT l = (l, false) := by
  match l with
  | [] => rfl
  | c :: r =>
    have hc := h c r rfl
    unfold unT
    split
    · rename_i t e; injection e with e1 e2; exact absurd e1 hc
    · rfl
end Go.Cal
namespace Go.Cal
open Go.Lib
theorem trL_self {l : List UInt8} (h : l.head? ≠ some 48) : trL l = l := by
  match l with
  | [] => rfl
  | c :: r => exact List.dropWhile_cons_of_neg (by simpa using h)
structure Dgt (d : Nat) (k : Int) : Prop where
  pos : 0 < d
  ten : d % 10 ≠ 0
  len : (decDigits d).length ≤ 2000
  lo : -5000 ≤ k
  hi : k ≤ 5000
theorem DRight.cases {d : Nat} {k : Int} (h : DRight d k) : (d = 0 ∧ k = 0) ∨ Dgt d k := by
  rcases h with h | ⟨h1, h2, h3, h4, h5⟩
  · exact .inl h
  · exact .inr ⟨h1, h2, h3, h4, h5⟩
theorem Dgt.right {d : Nat} {k : Int} (h : Dgt d k) : DRight d k := .inr ⟨h.pos, h.ten, h.len, h.lo, h.hi⟩
theorem Dgt.parts {d : Nat} {k : Int} (h : Dgt d k) : ∃ pt ex W P k0 a b, LyP (decDigits d) k pt ex W P k0 a b := lyB_parts (dec_ne d) h.len ⟨h.lo, h.hi⟩
theorem Dgt.trim {d : Nat} {k : Int} (h : Dgt d k) (a b : Nat) : trL (List.replicate a 48 ++ (decDigits d ++ List.replicate b 48)) = decDigits d ++ List.replicate b 48 ∧ trR (decDigits d ++ List.replicate b 48) = decDigits d := by
  have h1 : trL (decDigits d) = decDigits d := trL_self (dec_head h.pos)
  refine ⟨?_, ?_⟩
  · rw [trL_zeros, trL_append (by rw [h1]; exact dec_ne d), h1]
  · rw [trR_zeros, trR_self (dec_last h.ten)]
theorem Dgt.ok {d : Nat} {k : Int} (h : Dgt d k) : pOkL (decDigits d) = true := by
  have h1 : (decDigits d).isEmpty = false := by simpa using dec_ne d
  have h2 : ((decDigits d).head? == some 48) = false := by simpa using dec_head h.pos
  have h3 : (decDigits d).all isDig = true := List.all_eq_true.2 (dec_digs d)
  unfold pOkL
  rw [h1, h2, h3, decide_eq_true h.len]
  rfl
theorem powS_num {k : Int} (h : -10000 ≤ k ∧ k ≤ 10000) : powS (numT k) = some k := by
  unfold powS
  rw [atoi_num (by omega)]
  show (if _ then some k else none) = _
  rw [if_pos (by omega)]
theorem LyP.cut {S W P : List UInt8} {k k0 : Int} {pt ex : Bool} {a b : Nat} (h : LyP S k pt ex W P k0 a b) (hd : ∀ c ∈ S, isDig c = true) : candA (lyB S k) = some k0 ∧ candD (lyB S k) = (W, P) := by
  have hW := h.digW hd
  have hP := h.digP hd
  have hA : (101 : UInt8) ∉ W ++ (if pt = true then 46 :: P else []) := by
    intro hc
    rcases List.mem_append.1 hc with hc | hc
    · exact dig_no hW (by decide) hc
    · split at hc
      · rcases List.mem_cons.1 hc with hc | hc
        · exact absurd hc (by decide)
        · exact dig_no hP (by decide) hc
      · cases hc
  have h1 : cutC 101 (lyB S k) = (W ++ (if pt = true then 46 :: P else []), (if ex = true then numT k0 else []), ex) := by
    rw [h.eq, ← List.append_assoc]
    cases ex
    · have e1 : (if false = true then (101 : UInt8) :: numT k0 else []) = [] := rfl
      have e2 : (if false = true then numT k0 else []) = [] := rfl
      rw [e1, e2, List.append_nil]
      exact cutC_none hA
    · have e1 : (if true = true then (101 : UInt8) :: numT k0 else []) = 101 :: numT k0 := rfl
      have e2 : (if true = true then numT k0 else []) = numT k0 := rfl
      rw [e1, e2]
      exact cutC_some hA
  have h2 : cutC 46 (W ++ (if pt = true then 46 :: P else [])) = (W, P, pt) := by
    cases hp : pt
    · rw [if_neg (by simp), List.append_nil, h.np hp]
      exact cutC_none (dig_no hW (by decide))
    · rw [if_pos rfl]
      exact cutC_some (dig_no hW (by decide))
  refine ⟨?_, ?_⟩
  · unfold candA
    rw [h1]
    cases he : ex
    · rw [if_neg (by simp), h.ne he]
    · rw [if_pos rfl]
      exact powS_num h.lo
  · unfold candD
    rw [h1]
    simp only
    rw [h2]
theorem candB_lyB {d : Nat} {k : Int} (h : Dgt d k) : candB (lyB (decDigits d) k) = some (d, k) := by
  obtain ⟨pt, ex, W, P, k0, a, b, hp⟩ := h.parts
  obtain ⟨h1, h2⟩ := hp.cut (dec_digs d)
  obtain ⟨t1, t2⟩ := h.trim a b
  unfold candB
  rw [h1, h2]
  show (if trR (trL (W ++ P)) = [] then _ else _) = _
  rw [hp.all, t1, t2, if_neg (dec_ne d), if_pos h.ok, numV_dec, List.length_append, List.length_replicate]
  have := hp.kk
  have e : k0 + ((((decDigits d).length + b : Nat) : Int) - ((decDigits d).length : Int) - (P.length : Int)) = k := by omega
  rw [← e]
theorem lyS_pos {d : Nat} (h : 0 < d) (k : Int) : lyS d k = lyB (decDigits d) k := by unfold lyS; rw [if_neg (by omega)]
theorem candB_lyS {d : Nat} {k : Int} (h : DRight d k) : candB (lyS d k) = some (d, k) := by
  rcases h.cases with ⟨rfl, rfl⟩ | h
  · decide
  · rw [lyS_pos h.pos]; exact candB_lyB h
theorem lyS_head {d : Nat} {k : Int} (h : DRight d k) : ∃ c r, lyS d k = c :: r ∧ isDig c = true := by
  rcases h.cases with ⟨rfl, rfl⟩ | h
  · exact ⟨48, [], rfl, rfl⟩
  · obtain ⟨pt, ex, W, P, k0, a, b, hp⟩ := h.parts
    rw [lyS_pos h.pos, hp.eq]
    match W, hp.w, hp.digW (dec_digs d) with
    | c :: r, _, hd => exact ⟨c, _, rfl, hd c (by simp)⟩
theorem unT_lyT {d : Nat} {k : Int} (neg : Bool) (h : DRight d k) : unT (lyT neg d k) = (lyS d k, neg) := by
  unfold lyT
  cases neg
  · rw [if_neg (by simp), List.nil_append]
    obtain ⟨c, r, e, hc⟩ := lyS_head h
    refine unT_dig fun c' r' e' => ?_
    rw [e] at e'
    injection e' with e1 e2
    rw [← e1]
    exact (not_dig hc).1
  · rfl
/-- What is written is read as it is. -/
theorem unS_lyT {d : Nat} {k : Int} (neg : Bool) (h : DRight d k) : unS (lyT neg d k) = some (neg, d, k) := by
  unfold unS
  rw [unT_lyT neg h]
  simp only
  rw [candB_lyS h]
  simp only
  rw [if_pos ⟨h, trivial⟩]
/-- Unlike digits have unlike texts. -/
theorem lyT_inj {n1 n2 : Bool} {d1 d2 : Nat} {k1 k2 : Int} (h1 : DRight d1 k1) (h2 : DRight d2 k2) (h : lyT n1 d1 k1 = lyT n2 d2 k2) : n1 = n2 ∧ d1 = d2 ∧ k1 = k2 := by
  have e1 := unS_lyT n1 h1
  have e2 := unS_lyT n2 h2
  rw [h, e2] at e1
  injection e1 with e1
  injection e1 with a1 a2
  injection a2 with a2 a3
  exact ⟨a1.symm, a2.symm, a3.symm⟩
theorem lyT_ne {d : Nat} {k : Int} (neg : Bool) (h : DRight d k) : lyT neg d k ≠ [] := by
  obtain ⟨c, r, e, _⟩ := lyS_head h
  unfold lyT
  rw [e]
  simp
/-- How long a text is. -/
theorem lyT_len {d : Nat} {k : Int} (neg : Bool) (h : DRight d k) : (lyT neg d k).length ≤ 12100 := by
  have hs : (lyS d k).length ≤ 12050 := by
    rcases h.cases with ⟨rfl, rfl⟩ | h
    · decide
    · rw [lyS_pos h.pos]
      obtain ⟨n, hn⟩ : ∃ n, (decDigits d).length = n := ⟨_, rfl⟩
      have hl := h.len
      have h1 := h.lo
      have h2 := h.hi
      have hN : ∀ x : Int, x.natAbs < 10 ^ 20 → (numT x).length ≤ 21 := by
        intro x hx
        have := (padd_dec 20 x.natAbs (by decide) hx).2
        unfold numT
        split
        · simp; omega
        · omega
      have h3 := hN ((n : Int) + k - 1) (by omega)
      unfold lyB
      rw [hn] at hl ⊢
      split
      · rw [List.length_append, List.length_replicate, hn]; omega
      · split
        · rw [List.length_append, List.length_cons, List.length_take, List.length_drop, hn]; omega
        · split
          · simp only [List.length_cons, List.length_append, List.length_replicate, hn]; omega
          · split
            · simp only [List.length_cons, List.length_append, hn]; omega
            · simp only [List.length_cons, List.length_append, List.length_take, List.length_drop, hn]; omega
  unfold lyT
  cases neg
  · simp; omega
  · simp; omega
/-- What Scan makes of a text of digits. -/
theorem lyS_num {d : Nat} {k : Int} (h : DRight d k) (C : Nat) (hC : 10000 ≤ C) (neg : Bool) (hn : ((decDigits d).length : Int) + k ≤ 900) (hn' : -900 ≤ ((decDigits d).length : Int) + k) (hl : (decDigits d).length ≤ 1900) :
    (numS (lyS d k)).1 = true ∧ itemV neg (numD (lyS d k)) (expV C (numR (lyS d k)) - (numB (lyS d k) : Int)) = ⟨1, neg, d, k, 0, false⟩ := by
  rcases h.cases with ⟨rfl, rfl⟩ | h
  · refine ⟨by decide, ?_⟩
    rfl
  · obtain ⟨pt, ex, W, P, k0, a, b, hp⟩ := h.parts
    obtain ⟨t1, t2⟩ := h.trim a b
    have hW := hp.digW (dec_digs d)
    have hP := hp.digP (dec_digs d)
    obtain ⟨R, hR⟩ : ∃ R, (if ex = true then 101 :: numT k0 else []) = R := ⟨_, rfl⟩
    have hE : ExpT R ∧ expV C R = k0 := by
      rw [← hR]
      cases he : ex
      · rw [if_neg (by simp), hp.ne he]; exact ⟨.nil, rfl⟩
      · rw [if_pos rfl]
        have := hp.lo
        exact ⟨expT_num (.inl rfl) k0, expV_num 101 k0 (by omega)⟩
    have hall : (numS (lyS d k)).1 = true ∧ numD (lyS d k) = W ++ P ∧ numB (lyS d k) = P.length ∧ numR (lyS d k) = R := by
      rw [lyS_pos h.pos, hp.eq, hR]
      cases hq : pt
      · have e0 := hp.np hq
        rw [if_neg (by simp), List.nil_append, e0, List.append_nil]
        have := num_plain hW hp.w hE.1
        simpa using this
      · rw [if_pos rfl]
        exact num_point hW hP (.inl hp.w) hE.1
    obtain ⟨q1, q2, q3, q4⟩ := hall
    refine ⟨q1, ?_⟩
    rw [q2, q3, q4, hE.2]
    have hk := hp.kk
    unfold itemV
    simp only
    rw [hp.all, t1, t2, if_neg (dec_ne d), List.length_append, List.length_replicate]
    have e1 : k0 - (P.length : Int) + ((((decDigits d).length + b : Nat) : Int) - ((decDigits d).length : Int)) = k := by omega
    rw [e1, if_neg (by omega), if_neg (by omega), if_neg (by omega), numV_dec]
theorem lyT_item {d : Nat} {k : Int} (h : DRight d k) (neg : Bool) (C : Nat) (hC : 10000 ≤ C) (hn : ((decDigits d).length : Int) + k ≤ 900) (hn' : -900 ≤ ((decDigits d).length : Int) + k) (hl : (decDigits d).length ≤ 1900) :
    (textS (lyT neg d k)).1 = true ∧ textV C (lyT neg d k) = ⟨1, neg, d, k, 0, false⟩ := by
  unfold lyT
  cases neg
  · obtain ⟨h1, h2⟩ := lyS_num h C hC false hn hn' hl
    have := text_pos h1 C
    rw [h2] at this
    exact this
  · obtain ⟨h1, h2⟩ := lyS_num h C hC true hn hn' hl
    have := text_neg h1 C
    rw [h2] at this
    exact this
end Go.Cal
namespace Go.Cal
open Go.Lib
/-- Noughts behind a numeral. -/
theorem dec_tens (d k : Nat) (h : 0 < d) : decDigits (d * 10 ^ k) = decDigits d ++ List.replicate k 48 := by
  have := dec_padd k d 0 h (Nat.pow_pos (by decide))
  rw [Nat.add_zero] at this
  rw [this, padd_zero]
end Go.Cal
