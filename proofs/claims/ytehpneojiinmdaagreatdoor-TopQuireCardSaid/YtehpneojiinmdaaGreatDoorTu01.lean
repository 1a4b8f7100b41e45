/- Plain: about how many bits a number has tells which one of two is larger, where these are far from one another. Conditions: none. -/
/- Plain: the magnitude that a number is rounded to: the least one behind which a boundary is not below it. Conditions: none. -/
/- Plain: the table of the forms as functions; signs, magnitudes and patterns. Conditions: none. -/
/- Plain: what the code reckons of a posit's fields, of odd numbers, and of the order of numbers. Conditions: none. -/
/- Plain: the pattern of a number, and its laws. Conditions: none. -/
/- Plain: sizes between the boundaries of a magnitude are rounded to it; the shortest digits, by steps. Conditions: none. -/
import Derived.Test.YtehpneojiinmdaaGreatDoorTu00
import Derived.Lib.TrailingZeros
namespace Go.Cal
/-- The logarithm of a power of five to the base of two, about. -/
def lg5 (f : Nat) : Nat := f * 2321928095 / 1000000000
theorem five_low (f : Nat) : 2 ^ (f * 339 / 146) ≤ 5 ^ f := by
  have h0 : 2 ^ 339 ≤ 5 ^ 146 := by decide +kernel
  refine (Nat.pow_le_pow_iff_left (n := 146) (by decide)).1 ?_
  rw [← Nat.pow_mul, ← Nat.pow_mul, Nat.mul_comm f 146, Nat.pow_mul 5]
  refine Nat.le_trans (Nat.pow_le_pow_right (by decide) (show f * 339 / 146 * 146 ≤ 339 * f by omega)) ?_
  rw [Nat.pow_mul]
  exact Nat.pow_le_pow_left h0 f
theorem five_high (f : Nat) : 5 ^ f ≤ 2 ^ ((f * 137 + 58) / 59) := by
  have h0 : 5 ^ 59 ≤ 2 ^ 137 := by decide +kernel
  refine (Nat.pow_le_pow_iff_left (n := 59) (by decide)).1 ?_
  rw [← Nat.pow_mul, ← Nat.pow_mul, Nat.mul_comm f 59, Nat.pow_mul 5]
  refine Nat.le_trans (Nat.pow_le_pow_left h0 f) ?_
  rw [← Nat.pow_mul]
  exact Nat.pow_le_pow_right (by decide) (by omega)
theorem five_lg {f : Nat} (h : f ≤ 5000) : 2 ^ lg5 f ≤ 2 * 5 ^ f ∧ 5 ^ f ≤ 2 ^ (lg5 f + 2) := by
  have h1 := five_low f
  have h2 := five_high f
  unfold lg5
  constructor
  · have : 2 ^ (f * 2321928095 / 1000000000) ≤ 2 ^ (f * 339 / 146 + 1) := Nat.pow_le_pow_right (by decide) (by omega)
    rw [Nat.pow_succ, Nat.mul_comm _ 2] at this
    exact Nat.le_trans this (Nat.mul_le_mul_left 2 h1)
  · exact Nat.le_trans h2 (Nat.pow_le_pow_right (by decide) (by omega))
/-- A number N times 2 to the power of t times 5 to the power of f, as a numerator and a denominator. -/
def exP (N : Nat) (t f : Int) : Nat := N * 5 ^ f.toNat * 2 ^ t.toNat
def exQ (t f : Int) : Nat := 5 ^ (-f).toNat * 2 ^ (-t).toNat
theorem exQ_pos (t f : Int) : 0 < exQ t f := Nat.mul_pos (Nat.pow_pos (by decide)) (Nat.two_pow_pos _)
/-- The size, as the code reckons it: b bits. -/
def exS (b : Nat) (t f : Int) : Int := b + t + (f * 2321928095).tdiv 1000000000
theorem lg_tdiv (f : Int) : (f * 2321928095).tdiv 1000000000 = (lg5 f.toNat : Int) - lg5 (-f).toNat := by
  unfold lg5
  rcases Int.le_total 0 f with h | h
  · rw [show (-f).toNat = 0 by omega, Int.tdiv_eq_ediv_of_nonneg (by omega)]
    omega
  · rw [show f.toNat = 0 by omega]
    have h1 : (f * 2321928095).tdiv 1000000000 = -((-(f * 2321928095)).tdiv 1000000000) := by rw [Int.neg_tdiv, Int.neg_neg]
    rw [h1, Int.tdiv_eq_ediv_of_nonneg (by omega)]
    omega
/-- Between which powers of two it lies. -/
theorem exS_bnd {N b : Nat} {t f : Int} (hN : N < 2 ^ b) (hN' : 2 ^ b ≤ 2 * N) (hf : -5000 ≤ f ∧ f ≤ 5000) (hT : -20000 ≤ t ∧ t ≤ 20000) :
    -40000 ≤ exS b t f ∧ exP N t f * 2 ^ 60000 < exQ t f * 2 ^ (60000 + exS b t f + 3).toNat ∧ exQ t f * 2 ^ (60000 + exS b t f - 4).toNat ≤ exP N t f * 2 ^ 60000 := by
  obtain ⟨T, hTe⟩ : ∃ T : Nat, T = 60000 := ⟨_, rfl⟩
  have hTi : (60000 : Int) = (T : Int) := by omega
  obtain ⟨x, hx⟩ : ∃ x, f.toNat = x := ⟨_, rfl⟩
  obtain ⟨y, hy⟩ : ∃ y, (-f).toNat = y := ⟨_, rfl⟩
  obtain ⟨u, hu⟩ : ∃ u, t.toNat = u := ⟨_, rfl⟩
  obtain ⟨v, hv⟩ : ∃ v, (-t).toNat = v := ⟨_, rfl⟩
  obtain ⟨lx1, lx2⟩ := five_lg (f := x) (by omega)
  obtain ⟨ly1, ly2⟩ := five_lg (f := y) (by omega)
  have hlg := lg_tdiv f
  rw [hx, hy] at hlg
  have hlx : lg5 x ≤ 12000 := by unfold lg5; omega
  have hly : lg5 y ≤ 12000 := by unfold lg5; omega
  have hs : exS b t f = (b : Int) + u - v + (lg5 x : Int) - lg5 y := by unfold exS; omega
  unfold exP exQ
  rw [hx, hy, hu, hv, hs, hTi, ← hTe]
  obtain ⟨X, hX⟩ : ∃ X, lg5 x = X := ⟨_, rfl⟩
  obtain ⟨Y, hY⟩ : ∃ Y, lg5 y = Y := ⟨_, rfl⟩
  rw [hX] at lx1 lx2 hlx
  rw [hY] at ly1 ly2 hly
  rw [hX, hY]
  clear hs hlg hX hY
  refine ⟨by omega, ?_, ?_⟩
  · have hpos : 0 < 2 ^ (X + 2) * 2 ^ u * 2 ^ T := Nat.mul_pos (Nat.mul_pos (Nat.two_pow_pos _) (Nat.two_pow_pos _)) (Nat.two_pow_pos _)
    have h1 : N * (5 ^ x * 2 ^ u * 2 ^ T) < 2 ^ b * (2 ^ (X + 2) * 2 ^ u * 2 ^ T) :=
      Nat.lt_of_le_of_lt (Nat.mul_le_mul_left N (Nat.mul_le_mul_right _ (Nat.mul_le_mul_right _ lx2))) (Nat.mul_lt_mul_of_pos_right hN hpos)
    have h2 : 2 ^ Y * 2 ^ v * 2 ^ ((T : Int) + ((b : Int) + u - v + X - Y) + 3).toNat ≤ 2 * 5 ^ y * 2 ^ v * 2 ^ ((T : Int) + ((b : Int) + u - v + X - Y) + 3).toNat := Nat.mul_le_mul_right _ (Nat.mul_le_mul_right _ ly1)
    rw [← Nat.pow_add, ← Nat.pow_add, ← Nat.pow_add] at h1
    rw [← Nat.pow_add, ← Nat.pow_add] at h2
    have h3 : 2 * 2 ^ (b + (X + 2 + u + T)) = 2 ^ (Y + v + ((T : Int) + ((b : Int) + u - v + X - Y) + 3).toNat) := by
      rw [Nat.mul_comm, ← Nat.pow_succ]
      congr 1
      omega
    rw [← h3, Nat.mul_assoc 2, Nat.mul_assoc 2] at h2
    have h4 := Nat.le_of_mul_le_mul_left h2 (by decide)
    have e1 : N * 5 ^ x * 2 ^ u * 2 ^ T = N * (5 ^ x * 2 ^ u * 2 ^ T) := by simp only [Nat.mul_assoc]
    rw [e1]
    exact Nat.lt_of_lt_of_le h1 h4
  · have h1 : 5 ^ y * 2 ^ v * 2 ^ ((T : Int) + ((b : Int) + u - v + X - Y) - 4).toNat ≤ 2 ^ (Y + 2) * 2 ^ v * 2 ^ ((T : Int) + ((b : Int) + u - v + X - Y) - 4).toNat := Nat.mul_le_mul_right _ (Nat.mul_le_mul_right _ ly2)
    have h2 : 2 ^ b * 2 ^ X * 2 ^ u * 2 ^ T ≤ (2 * N) * (2 * 5 ^ x) * 2 ^ u * 2 ^ T := Nat.mul_le_mul_right _ (Nat.mul_le_mul_right _ (Nat.mul_le_mul hN' lx1))
    rw [← Nat.pow_add, ← Nat.pow_add] at h1
    rw [← Nat.pow_add, ← Nat.pow_add, ← Nat.pow_add] at h2
    have h3 : 2 ^ (b + X + u + T) = 4 * 2 ^ (Y + 2 + v + ((T : Int) + ((b : Int) + u - v + X - Y) - 4).toNat) := by
      rw [show (4 : Nat) = 2 ^ 2 from rfl, ← Nat.pow_add]
      congr 1
      omega
    have h4 : (2 * N) * (2 * 5 ^ x) * 2 ^ u * 2 ^ T = 4 * (N * 5 ^ x * 2 ^ u * 2 ^ T) := by
      rw [show (4 : Nat) = 2 * 2 from rfl]
      ac_rfl
    rw [h3, h4] at h2
    exact Nat.le_trans h1 (Nat.le_of_mul_le_mul_left h2 (by decide))
/-- Far from one another: the order is told. -/
theorem exS_far {N1 N2 b1 b2 : Nat} {t1 f1 t2 f2 : Int} (h1 : N1 < 2 ^ b1) (h1' : 2 ^ b1 ≤ 2 * N1) (h2 : N2 < 2 ^ b2) (h2' : 2 ^ b2 ≤ 2 * N2) (hf1 : -5000 ≤ f1 ∧ f1 ≤ 5000) (hf2 : -5000 ≤ f2 ∧ f2 ≤ 5000) (hT1 : -20000 ≤ t1 ∧ t1 ≤ 20000) (hT2 : -20000 ≤ t2 ∧ t2 ≤ 20000)
    (hfar : 6 < exS b1 t1 f1 - exS b2 t2 f2) : exP N2 t2 f2 * exQ t1 f1 < exP N1 t1 f1 * exQ t2 f2 := by
  obtain ⟨l1, _, a2⟩ := exS_bnd h1 h1' hf1 hT1
  obtain ⟨l2, c1, _⟩ := exS_bnd h2 h2' hf2 hT2
  have q1 := exQ_pos t1 f1
  have q2 := exQ_pos t2 f2
  obtain ⟨s1, hs1⟩ : ∃ s, exS b1 t1 f1 = s := ⟨_, rfl⟩
  obtain ⟨s2, hs2⟩ : ∃ s, exS b2 t2 f2 = s := ⟨_, rfl⟩
  rw [hs1] at a2 hfar l1
  rw [hs2] at c1 hfar l2
  generalize exP N1 t1 f1 = P1 at *
  generalize exP N2 t2 f2 = P2 at *
  generalize exQ t1 f1 = Q1 at *
  generalize exQ t2 f2 = Q2 at *
  have hlt : 2 ^ (60000 + s2 + 3).toNat ≤ 2 ^ (60000 + s1 - 4).toNat := Nat.pow_le_pow_right (by decide) (by omega)
  have hT := Nat.two_pow_pos 60000
  generalize 2 ^ 60000 = T at *
  generalize 2 ^ (60000 + s2 + 3).toNat = A at *
  generalize 2 ^ (60000 + s1 - 4).toNat = B at *
  refine Nat.lt_of_mul_lt_mul_right (a := T) ?_
  calc P2 * Q1 * T = P2 * T * Q1 := by ac_rfl
    _ < Q2 * A * Q1 := Nat.mul_lt_mul_of_pos_right c1 q1
    _ ≤ Q2 * B * Q1 := Nat.mul_le_mul_right _ (Nat.mul_le_mul_left _ hlt)
    _ = Q1 * B * Q2 := by ac_rfl
    _ ≤ P1 * T * Q2 := Nat.mul_le_mul_right _ a2
    _ = P1 * Q2 * T := by ac_rfl
end Go.Cal
namespace Go.Cal
/-- Bit by bit: the greatest of those that are too small, and one more. -/
def seek (wi : Nat → Bool) (most : Nat) : Nat → Nat → Nat
  | 0, key => key
  | b + 1, key => seek wi most b (if key + 2 ^ b ≤ most ∧ wi (key + 2 ^ b - 1) = false then key + 2 ^ b else key)
theorem seek_le {wi : Nat → Bool} {most : Nat} : ∀ (b key : Nat), key ≤ most → seek wi most b key ≤ most
  | 0, key, h => h
  | b + 1, key, h => by
    unfold seek
    split
    · rename_i h2; exact seek_le b _ h2.1
    · exact seek_le b _ h
def sc2 : Nat := 2 ^ 2000
/-- Is a size p / q to be rounded to a magnitude, or a lesser one? -/
def wiN (kd wd mn bs p q key : Nat) : Bool := decide (p * sc2 < uN kd wd mn bs (2 * key + 1) * q) || (decide (p * sc2 = uN kd wd mn bs (2 * key + 1) * q) && key % 2 == 0)
end Go.Cal
namespace Go.Cal
/-- One row of the table, by its number. -/
def fK (id : Int) : Int := match id with | 1 => 1 | 2 => 1 | 3 => 1 | 4 => 1 | 10 => 3 | 11 => 4 | _ => 2
def fW (id : Int) : Int := match id with | 2 => 16 | 3 => 32 | 4 => 64 | 7 => 6 | 8 => 6 | 9 => 4 | 12 => 16 | 13 => 32 | 14 => 64 | _ => 8
def fM (id : Int) : Int := match id with | 5 => 3 | 6 => 2 | 7 => 2 | 8 => 3 | 9 => 1 | 10 => 6 | 12 => 10 | 13 => 23 | 14 => 52 | _ => 0
def fB (id : Int) : Int := match id with | 5 => 7 | 6 => 15 | 7 => 3 | 8 => 1 | 9 => 1 | 11 => 127 | 12 => 15 | 13 => 127 | 14 => 1023 | _ => 0
def fT (id : Int) : Int := match id with | 1 => 127 | 2 => 32767 | 3 => 2147483647 | 4 => 9223372036854775807 | 5 => 126 | 6 => 123 | 7 => 31 | 8 => 31 | 9 => 7 | 10 => 127 | 11 => 254 | 12 => 31743 | 13 => 2139095039 | _ => 9218868437227405311
def fI (id : Int) : Int := match id with | 6 => 124 | 12 => 31744 | 13 => 2139095040 | 14 => 9218868437227405312 | _ => 0
def fN (id : Int) : Int := match id with | 1 => 128 | 2 => 32768 | 3 => 2147483648 | 4 => 9223372036854775808 | 5 => 127 | 6 => 126 | 11 => 255 | 12 => 32256 | 13 => 2143289344 | 14 => 9221120237041090560 | _ => 0
theorem id_cases {id : Int} (h1 : 1 ≤ id) (h2 : id < 15) : id = 1 ∨ id = 2 ∨ id = 3 ∨ id = 4 ∨ id = 5 ∨ id = 6 ∨ id = 7 ∨ id = 8 ∨ id = 9 ∨ id = 10 ∨ id = 11 ∨ id = 12 ∨ id = 13 ∨ id = 14 := by omega

theorem ft_bounds (id : Int) : 0 ≤ fW id ∧ fW id ≤ 64 ∧ 4 ≤ fW id ∧ 0 < fT id ∧ 0 ≤ fI id ∧ 0 ≤ fN id ∧ fT id < 18446744073709551616 ∧ fI id < 18446744073709551616 ∧ fN id < 18446744073709551616 := by
  unfold fW fT fI fN
  refine ⟨?_, ?_, ?_, ?_, ?_, ?_, ?_, ?_, ?_⟩ <;> (split <;> omega)
/-- What Fits tells. -/
def fitsV (id p : Int) : Int := if id < 1 ∨ 15 ≤ id then 3 else if p < 2 ^ (fW id).toNat then 0 else 1
def sgV (id : Int) : Int := if fK id = 4 then 0 else 2 ^ ((fW id).toNat - 1)
/-- What is wrong with a form and a sign; the greatest magnitude. -/
def mostE (id : Int) (neg : Bool) : Int := if id < 1 ∨ 15 ≤ id then 3 else if neg = true ∧ fK id = 4 then 5 else 0
def mostV (id : Int) (neg : Bool) : Int := if neg = true ∧ fK id = 3 then fT id + 1 else fT id
/-- The pattern of a sign and a magnitude. -/
def patV (id : Int) (neg : Bool) (key : Int) : Int := if neg = false then key else if fK id = 2 then key + 2 ^ ((fW id).toNat - 1) else (-key) % 2 ^ (fW id).toNat
/-- A pattern's sign and magnitude; its class. -/
def partN (id p : Int) : Bool := decide (fK id ≠ 4 ∧ 2 ^ ((fW id).toNat - 1) ≤ p)
def partK (id p : Int) : Int := if partN id p = false then p else if fK id = 2 then p - 2 ^ ((fW id).toNat - 1) else (-p) % 2 ^ (fW id).toNat
def classV (id p : Int) : Int := if fK id = 2 ∧ partK id p = fI id ∧ fI id ≠ 0 then 3 else if (fK id = 2 ∧ fT id < partK id p) ∨ (fK id ≠ 2 ∧ fN id ≠ 0 ∧ p = fN id) then 4 else if partK id p = 0 ∧ fK id ≠ 4 then 1 else 2
theorem mostE_zero {id : Int} {neg : Bool} (h : mostE id neg = 0) : 1 ≤ id ∧ id < 15 ∧ (neg = true → fK id ≠ 4) := by
  unfold mostE at h
  split at h
  · omega
  · split at h
    · omega
    · rename_i h1 h2
      exact ⟨by omega, by omega, fun hn hk => h2 ⟨hn, hk⟩⟩
theorem mostV_bnd (id : Int) (neg : Bool) : 0 < mostV id neg ∧ mostV id neg < 18446744073709551616 := by
  unfold mostV fT
  split <;> (split <;> first | omega | (rename_i h; revert h; simp [fK]))
/-- What becomes of a number that is too large. -/
def largeV (id mode : Int) (neg : Bool) : Int :=
  if mode = 1 ∨ fK id = 1 ∨ (fI id = 0 ∧ fN id = 0) then patV id neg (mostV id neg)
  else if fI id = 0 then fN id else if neg = true then fI id + 2 ^ ((fW id).toNat - 1) else fI id
end Go.Cal
namespace Go.Cal
theorem tzN_ctz : ∀ f m, Lib.ctzFrom f m = tzN f m
  | 0, _ => rfl
  | f + 1, m => by
    unfold Lib.ctzFrom tzN
    by_cases h : m % 2 = 1
    · rw [if_pos h, if_neg (by omega)]
    · rw [if_neg h, if_pos (by omega), tzN_ctz f (m / 2), Nat.add_comm]
theorem ctz_tz {m : Nat} (h : 0 < m) : Lib.ctz 64 m = tzN 64 m := by
  unfold Lib.ctz
  rw [if_neg (by omega), tzN_ctz]
theorem tzN_lt : ∀ (f m : Nat), 0 < m → m < 2 ^ f → tzN f m < f
  | 0, m, h0, h => by simp at h; omega
  | f + 1, m, h0, h => by
    unfold tzN
    split
    · have := tzN_lt f (m / 2) (by omega) (by rw [Nat.pow_succ] at h; omega)
      omega
    · omega
/-- The run of a key, as the code finds it: low keys, high ones. -/
theorem split_low {n key : Nat} (h0 : 0 < key) (h : key < 2 ^ (n - 1)) (hn : 2 ≤ n) : 0 < n - bl key ∧ poR n key = -((n - bl key : Nat) : Int) ∧ poL n key = n - (n - bl key) - 1 ∧ n - bl key ≤ n := by
  have h1 := bl_pos h0
  have h2 : bl key ≤ n - 1 := bl_iff.2 h
  unfold poR poL
  rw [if_pos h, if_pos h]
  omega
theorem split_high {n key : Nat} (h : key < 2 ^ n) (hg : 2 ^ (n - 1) ≤ key) (hn : 2 ≤ n) : n - bl key = 0 ∧ 0 < n - bl (2 ^ n - 1 - key) ∧ poR n key = ((n - bl (2 ^ n - 1 - key) : Nat) : Int) - 1 ∧ poL n key = n - (n - bl (2 ^ n - 1 - key)) - 1 ∧ n - bl (2 ^ n - 1 - key) ≤ n := by
  have h1 : n - 1 < bl key := by
    rcases Nat.lt_or_ge (n - 1) (bl key) with h2 | h2
    · exact h2
    · have := bl_iff.1 h2
      omega
  have h3 : bl (2 ^ n - 1 - key) ≤ n - 1 := by
    refine bl_iff.2 ?_
    have : 2 ^ n = 2 * 2 ^ (n - 1) := by rw [← Nat.pow_succ', Nat.succ_eq_add_one, show n - 1 + 1 = n by omega]
    omega
  unfold poR poL
  rw [if_neg (by omega), if_neg (by omega)]
  omega
/-- The same, otherwise reckoned. -/
theorem exP_cross (N : Nat) (t f t' f' : Int) : exP N t f * exQ t' f' = exP N (t - t') (f - f') * (5 ^ (f.toNat + (-f').toNat - (f - f').toNat) * 2 ^ (t.toNat + (-t').toNat - (t - t').toNat)) := by
  unfold exP exQ
  have h1 : f.toNat + (-f').toNat = (f - f').toNat + (f.toNat + (-f').toNat - (f - f').toNat) := by omega
  have h2 : t.toNat + (-t').toNat = (t - t').toNat + (t.toNat + (-t').toNat - (t - t').toNat) := by omega
  have e1 : 5 ^ f.toNat * 5 ^ (-f').toNat = 5 ^ (f - f').toNat * 5 ^ (f.toNat + (-f').toNat - (f - f').toNat) := by rw [← Nat.pow_add, ← Nat.pow_add, ← h1]
  have e2 : 2 ^ t.toNat * 2 ^ (-t').toNat = 2 ^ (t - t').toNat * 2 ^ (t.toNat + (-t').toNat - (t - t').toNat) := by rw [← Nat.pow_add, ← Nat.pow_add, ← h2]
  calc N * 5 ^ f.toNat * 2 ^ t.toNat * (5 ^ (-f').toNat * 2 ^ (-t').toNat) = N * (5 ^ f.toNat * 5 ^ (-f').toNat) * (2 ^ t.toNat * 2 ^ (-t').toNat) := by ac_rfl
    _ = _ := by rw [e1, e2]; ac_rfl
theorem cmpV_scale {x y c : Nat} (h : 0 < c) : cmpV ((x * c : Nat) : Int) ((y * c : Nat) : Int) = cmpV (x : Int) (y : Int) := by
  rcases Nat.lt_trichotomy x y with h1 | h1 | h1
  · rw [cmpV_lt (by exact_mod_cast Nat.mul_lt_mul_of_pos_right h1 h), cmpV_lt (by exact_mod_cast h1)]
  · rw [h1, cmpV_eq rfl, cmpV_eq rfl]
  · rw [cmpV_gt (by exact_mod_cast Nat.mul_lt_mul_of_pos_right h1 h), cmpV_gt (by exact_mod_cast h1)]
/-- The order of two numbers: by cross products. -/
def exC (N1 : Nat) (t1 f1 : Int) (N2 : Nat) (t2 f2 : Int) : Int := cmpV ((exP N1 t1 f1 * exQ t2 f2 : Nat) : Int) ((exP N2 t2 f2 * exQ t1 f1 : Nat) : Int)
theorem exC_scaled (N1 : Nat) (t1 f1 : Int) (N2 : Nat) (t2 f2 : Int) : cmpV ((exP N1 (t1 - t2) (f1 - f2) : Nat) : Int) ((exP N2 (t2 - t1) (f2 - f1) : Nat) : Int) = exC N1 t1 f1 N2 t2 f2 := by
  unfold exC
  rw [exP_cross, exP_cross N2, show f2.toNat + (-f1).toNat - (f2 - f1).toNat = f1.toNat + (-f2).toNat - (f1 - f2).toNat by omega, show t2.toNat + (-t1).toNat - (t2 - t1).toNat = t1.toNat + (-t2).toNat - (t1 - t2).toNat by omega]
  exact (cmpV_scale (Nat.mul_pos (Nat.pow_pos (by decide)) (Nat.two_pow_pos _))).symm
theorem exP_zero (t f : Int) : exP 0 t f = 0 := by unfold exP; simp
theorem exP_pos {N : Nat} (t f : Int) (h : 0 < N) : 0 < exP N t f := Nat.mul_pos (Nat.mul_pos h (Nat.pow_pos (by decide))) (Nat.two_pow_pos _)
theorem exC_zero_l {N2 : Nat} {t1 f1 t2 f2 : Int} : exC 0 t1 f1 N2 t2 f2 = cmpV 0 (N2 : Int) := by
  unfold exC
  rw [exP_zero, Nat.zero_mul]
  rcases Nat.eq_zero_or_pos N2 with h | h
  · subst h; rw [exP_zero, Nat.zero_mul]; rfl
  · have h2 := Nat.mul_pos (exP_pos t2 f2 h) (exQ_pos t1 f1)
    rw [cmpV_lt (a := 0) (b := (N2 : Int)) (by omega), cmpV_lt (by omega)]
theorem exC_zero_r {N1 : Nat} {t1 f1 t2 f2 : Int} : exC N1 t1 f1 0 t2 f2 = cmpV (N1 : Int) 0 := by
  unfold exC
  rw [exP_zero, Nat.zero_mul]
  rcases Nat.eq_zero_or_pos N1 with h | h
  · subst h; rw [exP_zero, Nat.zero_mul]; rfl
  · have h2 := Nat.mul_pos (exP_pos t1 f1 h) (exQ_pos t2 f2)
    rw [cmpV_gt (a := (N1 : Int)) (b := 0) (by omega), cmpV_gt (by omega)]
/-- A size against a boundary: is it to be rounded down? -/
theorem exC_wi {kd wd mn bs key N m : Nat} {t f e : Int} (he : 0 ≤ (2000 : Int) + e) (hm : m * 2 ^ ((2000 : Int) + e).toNat = uN kd wd mn bs (2 * key + 1)) :
    ((exC N t f m e 0 < 0) ↔ exP N t f * sc2 < uN kd wd mn bs (2 * key + 1) * exQ t f) ∧ ((exC N t f m e 0 = 0) ↔ exP N t f * sc2 = uN kd wd mn bs (2 * key + 1) * exQ t f) := by
  have e1 : exP m e 0 = m * 2 ^ e.toNat := by unfold exP; simp
  have e2 : exQ e 0 = 2 ^ (-e).toNat := by unfold exQ; simp
  have h0 : 2000 = (-e).toNat + (2000 - (-e).toNat) := by omega
  have h1 : ((2000 : Int) + e).toNat = e.toNat + (2000 - (-e).toNat) := by omega
  generalize hc : 2000 - (-e).toNat = c at h0 h1
  have hs : sc2 = 2 ^ (-e).toNat * 2 ^ c := by unfold sc2; rw [← Nat.pow_add, ← h0]
  rw [← hm, h1, hs, Nat.pow_add]
  unfold exC
  rw [e1, e2]
  have l1 : exP N t f * (2 ^ (-e).toNat * 2 ^ c) = exP N t f * 2 ^ (-e).toNat * 2 ^ c := by ac_rfl
  have l2 : m * (2 ^ e.toNat * 2 ^ c) * exQ t f = m * 2 ^ e.toNat * exQ t f * 2 ^ c := by ac_rfl
  rw [l1, l2]
  have hp := Nat.two_pow_pos c
  generalize exP N t f * 2 ^ (-e).toNat = X
  generalize m * 2 ^ e.toNat * exQ t f = Y
  generalize 2 ^ c = C at hp
  have hlt : X * C < Y * C ↔ X < Y := ⟨fun h => Nat.lt_of_mul_lt_mul_right h, fun h => Nat.mul_lt_mul_of_pos_right h hp⟩
  have heq : X * C = Y * C ↔ X = Y := ⟨fun h => Nat.eq_of_mul_eq_mul_right hp h, fun h => by rw [h]⟩
  rw [hlt, heq]
  rcases cmpV_cases (X : Int) (Y : Int) with ⟨h, hv⟩ | ⟨h, hv⟩ | ⟨h, hv⟩ <;> rw [hv] <;> constructor <;> constructor <;> intro h' <;> omega
/-- Far from one another. -/
theorem exC_far_gt {N1 N2 b1 b2 : Nat} {t1 f1 t2 f2 : Int} (h1 : N1 < 2 ^ b1) (h1' : 2 ^ b1 ≤ 2 * N1) (h2 : N2 < 2 ^ b2) (h2' : 2 ^ b2 ≤ 2 * N2) (hf1 : -5000 ≤ f1 ∧ f1 ≤ 5000) (hf2 : -5000 ≤ f2 ∧ f2 ≤ 5000) (hT1 : -20000 ≤ t1 ∧ t1 ≤ 20000) (hT2 : -20000 ≤ t2 ∧ t2 ≤ 20000)
    (hfar : 6 < exS b1 t1 f1 - exS b2 t2 f2) : exC N1 t1 f1 N2 t2 f2 = 1 := by
  unfold exC
  exact cmpV_gt (by exact_mod_cast exS_far h1 h1' h2 h2' hf1 hf2 hT1 hT2 hfar)
theorem exC_far_lt {N1 N2 b1 b2 : Nat} {t1 f1 t2 f2 : Int} (h1 : N1 < 2 ^ b1) (h1' : 2 ^ b1 ≤ 2 * N1) (h2 : N2 < 2 ^ b2) (h2' : 2 ^ b2 ≤ 2 * N2) (hf1 : -5000 ≤ f1 ∧ f1 ≤ 5000) (hf2 : -5000 ≤ f2 ∧ f2 ≤ 5000) (hT1 : -20000 ≤ t1 ∧ t1 ≤ 20000) (hT2 : -20000 ≤ t2 ∧ t2 ≤ 20000)
    (hfar : exS b1 t1 f1 - exS b2 t2 f2 < -6) : exC N1 t1 f1 N2 t2 f2 = -1 := by
  unfold exC
  exact cmpV_lt (by exact_mod_cast exS_far h2 h2' h1 h1' hf2 hf1 hT2 hT1 (by omega))
/-- A magnitude's number with so many bits more, made odd. -/
def magV (id : Int) (more key : Nat) : Nat × Int := oddP 64 (numQ (fK id).toNat (fW id).toNat (fM id).toNat (fB id).toNat more key).1 (numQ (fK id).toNat (fW id).toNat (fM id).toNat (fB id).toNat more key).2
theorem oddP_odd (f m : Nat) (e : Int) (h : m % 2 = 1) : oddP f m e = (m, e) := by
  unfold oddP
  rw [if_neg (by omega)]
  have : tzN f m = 0 := by
    cases f with
    | zero => rfl
    | succ f => unfold tzN; rw [if_neg (by omega)]
  rw [this]; simp
theorem miM_zero (man : Nat) : miM man 0 = 0 := by unfold miM; simp
theorem miM_pos {man key : Nat} (h : 0 < key) : 0 < miM man key := by
  unfold miM
  split
  · rename_i h1
    have h2 := Nat.mod_add_div key (2 ^ man)
    rw [h1] at h2
    omega
  · have := Nat.two_pow_pos man
    omega
theorem miM_lt (man key : Nat) : miM man key < 2 ^ (man + 1) := by
  have h1 := Nat.mod_lt key (Nat.two_pow_pos man)
  unfold miM
  rw [Nat.pow_succ]
  split <;> omega
end Go.Cal
namespace Go.Cal
/-- Is a size P / Q to be rounded to a magnitude of a form, or a lesser one? -/
def wiF (id : Int) (P Q key : Nat) : Bool := wiN (fK id).toNat (fW id).toNat (fM id).toNat (fB id).toNat P Q key
/-- The magnitude of a size, where it is not too large. -/
def nearK (id : Int) (neg : Bool) (P Q : Nat) : Nat :=
  if fK id = 1 ∧ seek (wiF id P Q) (mostV id neg).toNat (fW id).toNat 0 = 0 ∧ P ≠ 0 then 1 else seek (wiF id P Q) (mostV id neg).toNat (fW id).toNat 0
def overB (id : Int) (neg : Bool) (P Q : Nat) : Bool := !wiF id P Q (mostV id neg).toNat
/-- The pattern of a number; what is wrong beside it. -/
def roundE (id mode : Int) : Int := if id < 1 ∨ 15 ≤ id then 3 else if mode ≠ 1 ∧ mode ≠ 2 then 1 else 0
def roundP (id mode : Int) (neg : Bool) (P Q : Nat) : Int :=
  if fK id = 4 ∧ (neg = true ∨ P = 0) then fN id
  else if overB id neg P Q = true then largeV id mode neg
  else patV id neg (nearK id neg P Q)
theorem fo_nat {id : Int} (h1 : 1 ≤ id) (h2 : id < 15) (neg : Bool) : (fB id).toNat ≤ 1900 ∧ (fB id).toNat + (fM id).toNat ≤ 1900 ∧ 2 ≤ (fW id).toNat ∧ (fW id).toNat ≤ 300 ∧ ((fK id).toNat = 1 ↔ fK id = 1) ∧ ((fK id).toNat = 1 → 2 * (mostV id neg).toNat + 1 < 2 ^ (fW id).toNat) ∧ (mostV id neg).toNat < 2 ^ (fW id).toNat := by
  rcases id_cases h1 h2 with rfl | rfl | rfl | rfl | rfl | rfl | rfl | rfl | rfl | rfl | rfl | rfl | rfl | rfl <;> cases neg <;> decide +kernel
/-- The same number otherwise written is rounded alike. -/
theorem wiF_cross {id : Int} {P Q P' Q' : Nat} (hq : 0 < Q) (hq' : 0 < Q') (h : P * Q' = P' * Q) (key : Nat) : wiF id P Q key = wiF id P' Q' key := by
  unfold wiF wiN
  generalize uN (fK id).toNat (fW id).toNat (fM id).toNat (fB id).toNat (2 * key + 1) = u
  have hl : (P * sc2 < u * Q) ↔ (P' * sc2 < u * Q') := by
    have e1 : P * sc2 * Q' = P' * sc2 * Q := by rw [Nat.mul_right_comm, h, Nat.mul_right_comm]
    constructor
    · intro hh
      have h3 := Nat.mul_lt_mul_of_pos_right hh hq'
      rw [e1, Nat.mul_right_comm u] at h3
      exact Nat.lt_of_mul_lt_mul_right h3
    · intro hh
      have h3 := Nat.mul_lt_mul_of_pos_right hh hq
      rw [← e1, Nat.mul_right_comm u] at h3
      exact Nat.lt_of_mul_lt_mul_right h3
  have he : (P * sc2 = u * Q) ↔ (P' * sc2 = u * Q') := by
    have e1 : P * sc2 * Q' = P' * sc2 * Q := by rw [Nat.mul_right_comm, h, Nat.mul_right_comm]
    constructor
    · intro hh
      have h3 : P' * sc2 * Q = u * Q' * Q := by rw [← e1, hh, Nat.mul_right_comm]
      exact Nat.eq_of_mul_eq_mul_right hq h3
    · intro hh
      have h3 : P * sc2 * Q' = u * Q * Q' := by rw [e1, hh, Nat.mul_right_comm]
      exact Nat.eq_of_mul_eq_mul_right hq' h3
  simp only [hl, he]
theorem seek_cong {w1 w2 : Nat → Bool} (h : ∀ k, w1 k = w2 k) (most : Nat) : ∀ b key, seek w1 most b key = seek w2 most b key := by
  rw [show w1 = w2 from funext h]; intros; rfl
theorem roundP_cross {id mode : Int} {neg : Bool} {P Q P' Q' : Nat} (hq : 0 < Q) (hq' : 0 < Q') (h : P * Q' = P' * Q) : roundP id mode neg P Q = roundP id mode neg P' Q' := by
  have hw := wiF_cross (id := id) hq hq' h
  have hz : P = 0 ↔ P' = 0 := by
    constructor
    · intro h0
      rw [h0, Nat.zero_mul] at h
      rcases Nat.mul_eq_zero.1 h.symm with h3 | h3
      · exact h3
      · omega
    · intro h0
      rw [h0, Nat.zero_mul] at h
      rcases Nat.mul_eq_zero.1 h with h3 | h3
      · exact h3
      · omega
  have hs := fun m b k => seek_cong hw m b k
  unfold roundP overB nearK
  simp only [hw, hs, hz, ne_eq]
theorem nearK_le (id : Int) (neg : Bool) (P Q : Nat) : (nearK id neg P Q : Int) ≤ mostV id neg := by
  have hm := mostV_bnd id neg
  have hs := seek_le (wi := wiF id P Q) (most := (mostV id neg).toNat) (fW id).toNat 0 (Nat.zero_le _)
  unfold nearK
  split <;> omega
end Go.Cal
namespace Go.Cal
/-- The sizes that a magnitude stands for: between two boundaries; the number 0 stands for none. -/
structure Itv where
  lowN : Nat
  lowT : Int
  highN : Nat
  highT : Int
  even : Bool
/-- Does a number of tens lie in it? -/
def itvHas (i : Itv) (d : Nat) (k : Int) : Bool :=
  (decide (0 < exC d k k i.lowN i.lowT 0) || (exC d k k i.lowN i.lowT 0 == 0 && i.even && decide (0 < i.lowN))) &&
  (decide ((if 0 < i.highN then exC d k k i.highN i.highT 0 else -1) < 0) || ((if 0 < i.highN then exC d k k i.highN i.highT 0 else -1) == 0 && i.even))
/-- How often a power of ten goes into a number, and what is left. -/
def flA (m : Nat) (e k : Int) : Nat := exP m (e - k) (-k)
def flB (e k : Int) : Nat := exP 1 (k - e) k
def flQ (m : Nat) (e k : Int) : Nat := flA m e k / flB e k
def flR (m : Nat) (e k : Int) : Int := if flA m e k % flB e k = 0 then 0 else 2 + cmpV ((2 * (flA m e k % flB e k) : Nat) : Int) ((flB e k : Nat) : Int)
/-- The one of two neighbours that is in an interval, and nearer. -/
def nigV (i : Itv) (m : Nat) (e k : Int) : Option Nat :=
  if itvHas i (flQ m e k) k = true ∧ (0 < flR m e k ∧ itvHas i (flQ m e k + 1) k = true) then (if 2 < flR m e k ∨ (flR m e k = 2 ∧ flQ m e k % 2 = 1) then some (flQ m e k + 1) else some (flQ m e k))
  else if 0 < flR m e k ∧ itvHas i (flQ m e k + 1) k = true then some (flQ m e k + 1)
  else if itvHas i (flQ m e k) k = true then some (flQ m e k) else none
theorem nearV_some {i : Itv} {m d : Nat} {e k : Int} (h : nigV i m e k = some d) : itvHas i d k = true ∧ (d = flQ m e k ∨ (d = flQ m e k + 1 ∧ 0 < flR m e k)) := by
  unfold nigV at h
  split at h
  · rename_i hb
    split at h
    · injection h with h; subst h; exact ⟨hb.2.2, .inr ⟨rfl, hb.2.1⟩⟩
    · injection h with h; subst h; exact ⟨hb.1, .inl rfl⟩
  · split at h
    · rename_i hb; injection h with h; subst h; exact ⟨hb.2, .inr ⟨rfl, hb.1⟩⟩
    · split at h
      · rename_i hb; injection h with h; subst h; exact ⟨hb, .inl rfl⟩
      · cases h
/-- From a power of ten down: the first one where one is. -/
def seekV (i : Itv) (m : Nat) (e : Int) : Nat → Int → Nat × Int
  | 0, k => (0, k)
  | f + 1, k => match nigV i m e k with
    | some d => (d, k)
    | none => seekV i m e f (k - 1)
theorem seekV_is {i : Itv} {m : Nat} {e : Int} : ∀ (f : Nat) (k kx : Int), k - kx < f → 0 < f → (∀ j, j ≤ kx → nigV i m e j ≠ none) → ∃ d k', seekV i m e f k = (d, k') ∧ nigV i m e k' = some d ∧ k' ≤ k ∧ min k kx ≤ k'
  | 0, k, kx, _, h0, _ => by omega
  | f + 1, k, kx, hf, _, hx => by
    cases hn : nigV i m e k with
    | some d => exact ⟨d, k, by unfold seekV; rw [hn], hn, Int.le_refl _, by omega⟩
    | none =>
      have hk : kx < k := Classical.byContradiction fun h => hx k (by omega) hn
      obtain ⟨d, k', h1, h2, h3, h4⟩ := seekV_is f (k - 1) kx (by omega) (by omega) hx
      exact ⟨d, k', by unfold seekV; rw [hn]; exact h1, h2, by omega, by omega⟩
/-- Without the noughts at the end. -/
def stripV : Nat → Nat → Int → Nat × Int
  | 0, d, k => (d, k)
  | f + 1, d, k => if d = 0 ∨ d % 10 ≠ 0 then (d, k) else stripV f (d / 10) (k + 1)
theorem stripV_is : ∀ (f d : Nat) (k : Int), 0 < d → d < 10 ^ f → ∃ z : Nat, stripV f d k = (d / 10 ^ z, k + z) ∧ d / 10 ^ z * 10 ^ z = d ∧ d / 10 ^ z % 10 ≠ 0 ∧ z < f
  | 0, d, k, h0, h => by omega
  | f + 1, d, k, h0, h => by
    unfold stripV
    by_cases hd : d % 10 ≠ 0
    · rw [if_pos (.inr hd)]
      exact ⟨0, by simp, by simp, by simpa using hd, by omega⟩
    · rw [if_neg (by omega)]
      have hm : d / 10 * 10 = d := by omega
      obtain ⟨z, e1, e2, e3, e4⟩ := stripV_is f (d / 10) (k + 1) (by omega) (by rw [Nat.pow_succ] at h; omega)
      have hq : d / 10 / 10 ^ z = d / 10 ^ (z + 1) := by rw [Nat.div_div_eq_div_mul, Nat.pow_succ, Nat.mul_comm]
      rw [hq] at e1 e2 e3
      refine ⟨z + 1, ?_, ?_, e3, by omega⟩
      · rw [e1]; congr 1; push_cast; omega
      · calc d / 10 ^ (z + 1) * 10 ^ (z + 1) = d / 10 ^ (z + 1) * 10 ^ z * 10 := by rw [Nat.mul_assoc, ← Nat.pow_succ]
          _ = d := by rw [e2, hm]
theorem itv_pos {i : Itv} {d : Nat} {k : Int} (h : itvHas i d k = true) : 0 < d := by
  rcases Nat.eq_zero_or_pos d with h0 | h0
  · subst h0
    exfalso
    unfold itvHas at h
    rw [Bool.and_eq_true, exC_zero_l] at h
    have h1 := h.1
    rcases Nat.eq_zero_or_pos i.lowN with hl | hl
    · rw [hl] at h1
      have : cmpV 0 ((0 : Nat) : Int) = 0 := rfl
      rw [this] at h1
      simp at h1
    · rw [cmpV_lt (a := 0) (b := (i.lowN : Int)) (by omega)] at h1
      simp at h1
  · exact h0
/-- What is left over nothing: the number itself. -/
theorem fl_exact {m : Nat} {e k : Int} (h : flA m e k % flB e k = 0) : exP (flQ m e k) k k * exQ e 0 = exP m e 0 * exQ k k := by
  have hB : 0 < flB e k := exP_pos _ _ (by decide)
  have hAB : flQ m e k * flB e k = flA m e k := by
    unfold flQ
    exact Nat.div_mul_cancel (Nat.dvd_of_mod_eq_zero h)
  have c1 := exP_cross (flQ m e k) k k e 0
  have c2 := exP_cross m e 0 k k
  rw [c1, c2]
  have e1 : exP (flQ m e k) (k - e) (k - 0) = flQ m e k * flB e k := by
    unfold flB exP
    rw [Nat.one_mul, Int.sub_zero, Nat.mul_assoc]
  have e2 : exP m (e - k) (0 - k) = flA m e k := by unfold flA; rw [Int.zero_sub]
  rw [e1, e2, hAB]
  congr 3 <;> omega
end Go.Cal
