/- Plain: sizes between the boundaries of a magnitude are rounded to it; the shortest digits, by steps. Conditions: none. -/
import Derived.Test.YtdlkfnkmdlcekaaGreatDoorFo04
import Derived.Test.YtdlkfnkmdlcekaaGreatDoorFo02
namespace Go.Cal
/-- The search finds the least magnitude behind which a boundary is not below. -/
theorem seek_wi {id : Int} {neg : Bool} {P Q a : Nat} (h1 : 1 ≤ id) (h2 : id < 15) (hq : 0 < Q) (ha : wiF id P Q a = true) (hl : ∀ i, i < a → wiF id P Q i = false) (hle : a ≤ (mostV id neg).toNat) : seek (wiF id P Q) (mostV id neg).toNat (fW id).toNat 0 = a := by
  obtain ⟨b1, _, b3, b4, b5, b6, b7⟩ := fo_nat h1 h2 neg
  have hmo : ∀ i j, i ≤ j → (fun k => wiF id P Q (min k (mostV id neg).toNat)) i = true → (fun k => wiF id P Q (min k (mostV id neg).toNat)) j = true := fun i j hij hi =>
    wiF_mono (neg := neg) h1 h2 hq (by omega) (Nat.min_le_right _ _) hi
  have e : ∀ b k, k ≤ (mostV id neg).toNat → seek (wiF id P Q) (mostV id neg).toNat b k = seek (fun k => wiF id P Q (min k (mostV id neg).toNat)) (mostV id neg).toNat b k := by
    intro b
    induction b with
    | zero => intros; unfold seek; rfl
    | succ b ih =>
      intro k hk
      have hp := Nat.two_pow_pos b
      unfold seek
      by_cases hb : k + 2 ^ b ≤ (mostV id neg).toNat
      · rw [show min (k + 2 ^ b - 1) (mostV id neg).toNat = k + 2 ^ b - 1 by omega]
        refine ih _ ?_
        split <;> omega
      · rw [if_neg (fun hh => hb hh.1), if_neg (fun hh => hb hh.1)]
        exact ih _ hk
  rw [e _ _ (Nat.zero_le _)]
  exact seek_is hmo (by show wiF id P Q (min a _) = true; rw [Nat.min_eq_left (by omega)]; exact ha) (fun i hi => by show wiF id P Q (min i _) = false; rw [Nat.min_eq_left (by omega)]; exact hl i hi) (by omega) _ _ (Nat.zero_le _) (by omega)
/-- A size that lies where a magnitude's sizes lie is rounded to it. -/
theorem round_at {id mode : Int} {neg : Bool} {P Q key : Nat} (hE : mostE id neg = 0) (hq : 0 < Q) (hp : 0 < P) (hk : (key : Int) ≤ mostV id neg) (hk1 : fK id = 1 → 0 < key)
    (hlow : (fK id = 1 ∧ key = 1) ∨ ∀ i, i < key → wiF id P Q i = false)
    (hhigh : wiF id P Q key = true ∨ ((key : Int) = mostV id neg ∧ largeV id mode neg = patV id neg (mostV id neg))) : roundP id mode neg P Q = patV id neg key := by
  obtain ⟨h1, h2, h3⟩ := mostE_zero hE
  have hm := mostV_bnd id neg
  have h4 : ¬ (fK id = 4 ∧ (neg = true ∨ P = 0)) := by
    rintro ⟨hk4, hn⟩
    rcases hn with hn | hn
    · exact h3 hn hk4
    · omega
  unfold roundP
  rw [if_neg h4]
  by_cases hw : wiF id P Q (mostV id neg).toNat = true
  · have hw1 : wiF id P Q key = true := by
      rcases hhigh with h | ⟨h, _⟩
      · exact h
      · rw [← h] at hw; simpa using hw
    rw [if_neg (by unfold overB; rw [hw]; decide)]
    rcases hlow with ⟨k1, k2⟩ | hl
    · subst k2
      unfold nearK
      by_cases h0 : wiF id P Q 0 = true
      · rw [seek_wi h1 h2 hq h0 (fun i hi => by omega) (Nat.zero_le _), if_pos ⟨k1, rfl, by omega⟩]
      · rw [seek_wi h1 h2 hq hw1 (fun i hi => by obtain rfl : i = 0 := by omega
                                                 simpa using h0) (by omega), if_neg (fun h => by have := h.2.1; omega)]
    · unfold nearK
      rw [seek_wi h1 h2 hq hw1 hl (by omega), if_neg (fun h => by have := hk1 h.1; have := h.2.1; omega)]
  · rcases hhigh with h | ⟨h, hL⟩
    · exact absurd (wiF_mono (neg := neg) h1 h2 hq (by omega) (Nat.le_refl _) h) hw
    · have hw' : wiF id P Q (mostV id neg).toNat = false := by simpa using hw
      rw [if_pos (by unfold overB; rw [hw']; rfl), hL, h]
/-- The sizes that a magnitude stands for: between two boundaries; the number 0 stands for none. -/
structure Itv where
  lowN : Nat
  lowT : Int
  highN : Nat
  highT : Int
  even : Bool
/-- Does a number of tens lie in it? -/
def itvHas (i : Itv) (d : Nat) (k : Int) : Bool :=
  (decide (0 < exC d k k i.lowN i.lowT 0) || (exC d k k i.lowN i.lowT 0 == 0 && i.even && decide (0 < i.lowN))) &&
  (decide ((if 0 < i.highN then exC d k k i.highN i.highT 0 else -1) < 0) || ((if 0 < i.highN then exC d k k i.highN i.highT 0 else -1) == 0 && i.even))
/-- How often a power of ten goes into a number, and what is left. -/
def flA (m : Nat) (e k : Int) : Nat := exP m (e - k) (-k)
def flB (e k : Int) : Nat := exP 1 (k - e) k
def flQ (m : Nat) (e k : Int) : Nat := flA m e k / flB e k
def flR (m : Nat) (e k : Int) : Int := if flA m e k % flB e k = 0 then 0 else 2 + cmpV ((2 * (flA m e k % flB e k) : Nat) : Int) ((flB e k : Nat) : Int)
/-- The one of two neighbours that is in an interval, and nearer. -/
def nearV (i : Itv) (m : Nat) (e k : Int) : Option Nat :=
  if itvHas i (flQ m e k) k = true ∧ (0 < flR m e k ∧ itvHas i (flQ m e k + 1) k = true) then (if 2 < flR m e k ∨ (flR m e k = 2 ∧ flQ m e k % 2 = 1) then some (flQ m e k + 1) else some (flQ m e k))
  else if 0 < flR m e k ∧ itvHas i (flQ m e k + 1) k = true then some (flQ m e k + 1)
  else if itvHas i (flQ m e k) k = true then some (flQ m e k) else none
theorem nearV_some {i : Itv} {m d : Nat} {e k : Int} (h : nearV i m e k = some d) : itvHas i d k = true ∧ (d = flQ m e k ∨ (d = flQ m e k + 1 ∧ 0 < flR m e k)) := by
  unfold nearV at h
  split at h
  · rename_i hb
    split at h
    · injection h with h; subst h; exact ⟨hb.2.2, .inr ⟨rfl, hb.2.1⟩⟩
    · injection h with h; subst h; exact ⟨hb.1, .inl rfl⟩
  · split at h
    · rename_i hb; injection h with h; subst h; exact ⟨hb.2, .inr ⟨rfl, hb.1⟩⟩
    · split at h
      · rename_i hb; injection h with h; subst h; exact ⟨hb, .inl rfl⟩
      · cases h
/-- From a power of ten down: the first one where one is. -/
def seekV (i : Itv) (m : Nat) (e : Int) : Nat → Int → Nat × Int
  | 0, k => (0, k)
  | f + 1, k => match nearV i m e k with
    | some d => (d, k)
    | none => seekV i m e f (k - 1)
theorem seekV_is {i : Itv} {m : Nat} {e : Int} : ∀ (f : Nat) (k kx : Int), k - kx < f → 0 < f → (∀ j, j ≤ kx → nearV i m e j ≠ none) → ∃ d k', seekV i m e f k = (d, k') ∧ nearV i m e k' = some d ∧ k' ≤ k ∧ min k kx ≤ k'
  | 0, k, kx, _, h0, _ => by omega
  | f + 1, k, kx, hf, _, hx => by
    cases hn : nearV i m e k with
    | some d => exact ⟨d, k, by unfold seekV; rw [hn], hn, Int.le_refl _, by omega⟩
    | none =>
      have hk : kx < k := Classical.byContradiction fun h => hx k (by omega) hn
      obtain ⟨d, k', h1, h2, h3, h4⟩ := seekV_is f (k - 1) kx (by omega) (by omega) hx
      exact ⟨d, k', by unfold seekV; rw [hn]; exact h1, h2, by omega, by omega⟩
/-- Without the noughts at the end. -/
def stripV : Nat → Nat → Int → Nat × Int
  | 0, d, k => (d, k)
  | f + 1, d, k => if d = 0 ∨ d % 10 ≠ 0 then (d, k) else stripV f (d / 10) (k + 1)
theorem stripV_is : ∀ (f d : Nat) (k : Int), 0 < d → d < 10 ^ f → ∃ z : Nat, stripV f d k = (d / 10 ^ z, k + z) ∧ d / 10 ^ z * 10 ^ z = d ∧ d / 10 ^ z % 10 ≠ 0 ∧ z < f
  | 0, d, k, h0, h => by omega
  | f + 1, d, k, h0, h => by
    unfold stripV
    by_cases hd : d % 10 ≠ 0
    · rw [if_pos (.inr hd)]
      exact ⟨0, by simp, by simp, by simpa using hd, by omega⟩
    · rw [if_neg (by omega)]
      have hm : d / 10 * 10 = d := by omega
      obtain ⟨z, e1, e2, e3, e4⟩ := stripV_is f (d / 10) (k + 1) (by omega) (by rw [Nat.pow_succ] at h; omega)
      have hq : d / 10 / 10 ^ z = d / 10 ^ (z + 1) := by rw [Nat.div_div_eq_div_mul, Nat.pow_succ, Nat.mul_comm]
      rw [hq] at e1 e2 e3
      refine ⟨z + 1, ?_, ?_, e3, by omega⟩
      · rw [e1]; congr 1; push_cast; omega
      · calc d / 10 ^ (z + 1) * 10 ^ (z + 1) = d / 10 ^ (z + 1) * 10 ^ z * 10 := by rw [Nat.mul_assoc, ← Nat.pow_succ]
          _ = d := by rw [e2, hm]
theorem itv_pos {i : Itv} {d : Nat} {k : Int} (h : itvHas i d k = true) : 0 < d := by
  rcases Nat.eq_zero_or_pos d with h0 | h0
  · subst h0
    exfalso
    unfold itvHas at h
    rw [Bool.and_eq_true, exC_zero_l] at h
    have h1 := h.1
    rcases Nat.eq_zero_or_pos i.lowN with hl | hl
    · rw [hl] at h1
      have : cmpV 0 ((0 : Nat) : Int) = 0 := rfl
      rw [this] at h1
      simp at h1
    · rw [cmpV_lt (a := 0) (b := (i.lowN : Int)) (by omega)] at h1
      simp at h1
  · exact h0
/-- What is left over nothing: the number itself. -/
theorem fl_exact {m : Nat} {e k : Int} (h : flA m e k % flB e k = 0) : exP (flQ m e k) k k * exQ e 0 = exP m e 0 * exQ k k := by
  have hB : 0 < flB e k := exP_pos _ _ (by decide)
  have hAB : flQ m e k * flB e k = flA m e k := by
    unfold flQ
    exact Nat.div_mul_cancel (Nat.dvd_of_mod_eq_zero h)
  have c1 := exP_cross (flQ m e k) k k e 0
  have c2 := exP_cross m e 0 k k
  rw [c1, c2]
  have e1 : exP (flQ m e k) (k - e) (k - 0) = flQ m e k * flB e k := by
    unfold flB exP
    rw [Nat.one_mul, Int.sub_zero, Nat.mul_assoc]
  have e2 : exP m (e - k) (0 - k) = flA m e k := by unfold flA; rw [Int.zero_sub]
  rw [e1, e2, hAB]
  congr 3 <;> omega
end Go.Cal
