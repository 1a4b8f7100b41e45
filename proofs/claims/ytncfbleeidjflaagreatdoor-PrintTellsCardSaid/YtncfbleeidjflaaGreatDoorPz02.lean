/- Plain: the table of the forms as functions; signs, magnitudes and patterns. Conditions: none. -/
/- Plain: what the code reckons of a posit's fields, of odd numbers, and of the order of numbers. Conditions: none. -/
/- Plain: the pattern of a number, and its laws. Conditions: none. -/
/- Plain: sizes between the boundaries of a magnitude are rounded to it; the shortest digits, by steps. Conditions: none. -/
/- Plain: a posit's bits as a text, as the document reads them. Conditions: none. -/
/- Plain: the least magnitude, found by halves. Conditions: none. -/
import Derived.Test.YtncfbleeidjflaaGreatDoorPz00
import Derived.Test.YtncfbleeidjflaaGreatDoorPz01
import Derived.Lib.TrailingZeros
namespace Go.Cal
/-- One row of the table, by its number. -/
def fK (id : Int) : Int := match id with | 1 => 1 | 2 => 1 | 3 => 1 | 4 => 1 | 10 => 3 | 11 => 4 | _ => 2
def fW (id : Int) : Int := match id with | 2 => 16 | 3 => 32 | 4 => 64 | 7 => 6 | 8 => 6 | 9 => 4 | 12 => 16 | 13 => 32 | 14 => 64 | _ => 8
def fM (id : Int) : Int := match id with | 5 => 3 | 6 => 2 | 7 => 2 | 8 => 3 | 9 => 1 | 10 => 6 | 12 => 10 | 13 => 23 | 14 => 52 | _ => 0
def fB (id : Int) : Int := match id with | 5 => 7 | 6 => 15 | 7 => 3 | 8 => 1 | 9 => 1 | 11 => 127 | 12 => 15 | 13 => 127 | 14 => 1023 | _ => 0
def fT (id : Int) : Int := match id with | 1 => 127 | 2 => 32767 | 3 => 2147483647 | 4 => 9223372036854775807 | 5 => 126 | 6 => 123 | 7 => 31 | 8 => 31 | 9 => 7 | 10 => 127 | 11 => 254 | 12 => 31743 | 13 => 2139095039 | _ => 9218868437227405311
def fI (id : Int) : Int := match id with | 6 => 124 | 12 => 31744 | 13 => 2139095040 | 14 => 9218868437227405312 | _ => 0
def fN (id : Int) : Int := match id with | 1 => 128 | 2 => 32768 | 3 => 2147483648 | 4 => 9223372036854775808 | 5 => 127 | 6 => 126 | 11 => 255 | 12 => 32256 | 13 => 2143289344 | 14 => 9221120237041090560 | _ => 0
theorem id_cases {id : Int} (h1 : 1 ≤ id) (h2 : id < 15) : id = 1 ∨ id = 2 ∨ id = 3 ∨ id = 4 ∨ id = 5 ∨ id = 6 ∨ id = 7 ∨ id = 8 ∨ id = 9 ∨ id = 10 ∨ id = 11 ∨ id = 12 ∨ id = 13 ∨ id = 14 := by omega

theorem ft_bounds (id : Int) : 0 ≤ fW id ∧ fW id ≤ 64 ∧ 4 ≤ fW id ∧ 0 < fT id ∧ 0 ≤ fI id ∧ 0 ≤ fN id ∧ fT id < 18446744073709551616 ∧ fI id < 18446744073709551616 ∧ fN id < 18446744073709551616 := by
  unfold fW fT fI fN
  refine ⟨?_, ?_, ?_, ?_, ?_, ?_, ?_, ?_, ?_⟩ <;> (split <;> omega)
/-- What Fits tells. -/
def fitsV (id p : Int) : Int := if id < 1 ∨ 15 ≤ id then 3 else if p < 2 ^ (fW id).toNat then 0 else 1
/-- Is a pattern a number, or infinite? -/
def isnB (id p : Int) : Bool := if fK id = 2 then decide (p % 2 ^ ((fW id).toNat - 1) ≤ fT id) || (p % 2 ^ ((fW id).toNat - 1) == fI id) else (fN id == 0) || p != fN id
def sgV (id : Int) : Int := if fK id = 4 then 0 else 2 ^ ((fW id).toNat - 1)
/-- What is wrong with a form and a sign; the greatest magnitude. -/
def mostE (id : Int) (neg : Bool) : Int := if id < 1 ∨ 15 ≤ id then 3 else if neg = true ∧ fK id = 4 then 5 else 0
def mostV (id : Int) (neg : Bool) : Int := if neg = true ∧ fK id = 3 then fT id + 1 else fT id
/-- The pattern of a sign and a magnitude. -/
def patV (id : Int) (neg : Bool) (key : Int) : Int := if neg = false then key else if fK id = 2 then key + 2 ^ ((fW id).toNat - 1) else (-key) % 2 ^ (fW id).toNat
/-- A pattern's sign and magnitude; its class. -/
def partN (id p : Int) : Bool := decide (fK id ≠ 4 ∧ 2 ^ ((fW id).toNat - 1) ≤ p)
def partK (id p : Int) : Int := if partN id p = false then p else if fK id = 2 then p - 2 ^ ((fW id).toNat - 1) else (-p) % 2 ^ (fW id).toNat
def classV (id p : Int) : Int := if fK id = 2 ∧ partK id p = fI id ∧ fI id ≠ 0 then 3 else if (fK id = 2 ∧ fT id < partK id p) ∨ (fK id ≠ 2 ∧ fN id ≠ 0 ∧ p = fN id) then 4 else if partK id p = 0 ∧ fK id ≠ 4 then 1 else 2
theorem mostE_zero {id : Int} {neg : Bool} (h : mostE id neg = 0) : 1 ≤ id ∧ id < 15 ∧ (neg = true → fK id ≠ 4) := by
  unfold mostE at h
  split at h
  · omega
  · split at h
    · omega
    · rename_i h1 h2
      exact ⟨by omega, by omega, fun hn hk => h2 ⟨hn, hk⟩⟩
theorem mostV_bnd (id : Int) (neg : Bool) : 0 < mostV id neg ∧ mostV id neg < 18446744073709551616 := by
  unfold mostV fT
  split <;> (split <;> first | omega | (rename_i h; revert h; simp [fK]))
theorem pat_bnd {id key : Int} {neg : Bool} (he : mostE id neg = 0) (h0 : 0 ≤ key) (h1 : key ≤ mostV id neg) : 0 ≤ patV id neg key ∧ patV id neg key < 2 ^ (fW id).toNat := by
  obtain ⟨i1, i2, i3⟩ := mostE_zero he
  rcases id_cases i1 i2 with rfl | rfl | rfl | rfl | rfl | rfl | rfl | rfl | rfl | rfl | rfl | rfl | rfl | rfl <;> cases neg <;> simp [patV, mostV, fK, fW, fT] at h1 i3 ⊢ <;> omega
theorem pat_key {id key : Int} {neg : Bool} (he : mostE id neg = 0) (h0 : 0 ≤ key) (h1 : key ≤ mostV id neg) : partK id (patV id neg key) = key := by
  obtain ⟨i1, i2, i3⟩ := mostE_zero he
  rcases id_cases i1 i2 with rfl | rfl | rfl | rfl | rfl | rfl | rfl | rfl | rfl | rfl | rfl | rfl | rfl | rfl <;> cases neg <;> simp [partK, partN, patV, mostV, fK, fW, fT] at h1 i3 ⊢ <;> (try split) <;> omega
theorem pat_class {id key : Int} {neg : Bool} (he : mostE id neg = 0) (h0 : 0 ≤ key) (h1 : key ≤ mostV id neg) : classV id (patV id neg key) = if key = 0 ∧ fK id ≠ 4 then 1 else 2 := by
  have hk := pat_key he h0 h1
  unfold classV
  rw [hk]
  obtain ⟨i1, i2, i3⟩ := mostE_zero he
  rcases id_cases i1 i2 with rfl | rfl | rfl | rfl | rfl | rfl | rfl | rfl | rfl | rfl | rfl | rfl | rfl | rfl <;> cases neg <;> simp [patV, mostV, fK, fW, fT, fN, fI] at h1 i3 ⊢ <;> omega
/-- What becomes of a number that is too large. -/
def largeV (id mode : Int) (neg : Bool) : Int :=
  if mode = 1 ∨ fK id = 1 ∨ (fI id = 0 ∧ fN id = 0) then patV id neg (mostV id neg)
  else if fI id = 0 then fN id else if neg = true then fI id + 2 ^ ((fW id).toNat - 1) else fI id
end Go.Cal
namespace Go.Cal
theorem tzN_ctz : ∀ f m, Lib.ctzFrom f m = tzN f m
  | 0, _ => rfl
  | f + 1, m => by
    unfold Lib.ctzFrom tzN
    by_cases h : m % 2 = 1
    · rw [if_pos h, if_neg (by omega)]
    · rw [if_neg h, if_pos (by omega), tzN_ctz f (m / 2), Nat.add_comm]
theorem ctz_tz {m : Nat} (h : 0 < m) : Lib.ctz 64 m = tzN 64 m := by
  unfold Lib.ctz
  rw [if_neg (by omega), tzN_ctz]
theorem tzN_lt : ∀ (f m : Nat), 0 < m → m < 2 ^ f → tzN f m < f
  | 0, m, h0, h => by simp at h; omega
  | f + 1, m, h0, h => by
    unfold tzN
    split
    · have := tzN_lt f (m / 2) (by omega) (by rw [Nat.pow_succ] at h; omega)
      omega
    · omega
/-- The run of a key, as the code finds it: low keys, high ones. -/
theorem split_low {n key : Nat} (h0 : 0 < key) (h : key < 2 ^ (n - 1)) (hn : 2 ≤ n) : 0 < n - bl key ∧ poR n key = -((n - bl key : Nat) : Int) ∧ poL n key = n - (n - bl key) - 1 ∧ n - bl key ≤ n := by
  have h1 := bl_pos h0
  have h2 : bl key ≤ n - 1 := bl_iff.2 h
  unfold poR poL
  rw [if_pos h, if_pos h]
  omega
theorem split_high {n key : Nat} (h : key < 2 ^ n) (hg : 2 ^ (n - 1) ≤ key) (hn : 2 ≤ n) : n - bl key = 0 ∧ 0 < n - bl (2 ^ n - 1 - key) ∧ poR n key = ((n - bl (2 ^ n - 1 - key) : Nat) : Int) - 1 ∧ poL n key = n - (n - bl (2 ^ n - 1 - key)) - 1 ∧ n - bl (2 ^ n - 1 - key) ≤ n := by
  have h1 : n - 1 < bl key := by
    rcases Nat.lt_or_ge (n - 1) (bl key) with h2 | h2
    · exact h2
    · have := bl_iff.1 h2
      omega
  have h3 : bl (2 ^ n - 1 - key) ≤ n - 1 := by
    refine bl_iff.2 ?_
    have : 2 ^ n = 2 * 2 ^ (n - 1) := by rw [← Nat.pow_succ', Nat.succ_eq_add_one, show n - 1 + 1 = n by omega]
    omega
  unfold poR poL
  rw [if_neg (by omega), if_neg (by omega)]
  omega
/-- The same, otherwise reckoned. -/
theorem exP_cross (N : Nat) (t f t' f' : Int) : exP N t f * exQ t' f' = exP N (t - t') (f - f') * (5 ^ (f.toNat + (-f').toNat - (f - f').toNat) * 2 ^ (t.toNat + (-t').toNat - (t - t').toNat)) := by
  unfold exP exQ
  have h1 : f.toNat + (-f').toNat = (f - f').toNat + (f.toNat + (-f').toNat - (f - f').toNat) := by omega
  have h2 : t.toNat + (-t').toNat = (t - t').toNat + (t.toNat + (-t').toNat - (t - t').toNat) := by omega
  have e1 : 5 ^ f.toNat * 5 ^ (-f').toNat = 5 ^ (f - f').toNat * 5 ^ (f.toNat + (-f').toNat - (f - f').toNat) := by rw [← Nat.pow_add, ← Nat.pow_add, ← h1]
  have e2 : 2 ^ t.toNat * 2 ^ (-t').toNat = 2 ^ (t - t').toNat * 2 ^ (t.toNat + (-t').toNat - (t - t').toNat) := by rw [← Nat.pow_add, ← Nat.pow_add, ← h2]
  calc N * 5 ^ f.toNat * 2 ^ t.toNat * (5 ^ (-f').toNat * 2 ^ (-t').toNat) = N * (5 ^ f.toNat * 5 ^ (-f').toNat) * (2 ^ t.toNat * 2 ^ (-t').toNat) := by ac_rfl
    _ = _ := by rw [e1, e2]; ac_rfl
theorem cmpV_scale {x y c : Nat} (h : 0 < c) : cmpV ((x * c : Nat) : Int) ((y * c : Nat) : Int) = cmpV (x : Int) (y : Int) := by
  rcases Nat.lt_trichotomy x y with h1 | h1 | h1
  · rw [cmpV_lt (by exact_mod_cast Nat.mul_lt_mul_of_pos_right h1 h), cmpV_lt (by exact_mod_cast h1)]
  · rw [h1, cmpV_eq rfl, cmpV_eq rfl]
  · rw [cmpV_gt (by exact_mod_cast Nat.mul_lt_mul_of_pos_right h1 h), cmpV_gt (by exact_mod_cast h1)]
/-- The order of two numbers: by cross products. -/
def exC (N1 : Nat) (t1 f1 : Int) (N2 : Nat) (t2 f2 : Int) : Int := cmpV ((exP N1 t1 f1 * exQ t2 f2 : Nat) : Int) ((exP N2 t2 f2 * exQ t1 f1 : Nat) : Int)
theorem exC_scaled (N1 : Nat) (t1 f1 : Int) (N2 : Nat) (t2 f2 : Int) : cmpV ((exP N1 (t1 - t2) (f1 - f2) : Nat) : Int) ((exP N2 (t2 - t1) (f2 - f1) : Nat) : Int) = exC N1 t1 f1 N2 t2 f2 := by
  unfold exC
  rw [exP_cross, exP_cross N2, show f2.toNat + (-f1).toNat - (f2 - f1).toNat = f1.toNat + (-f2).toNat - (f1 - f2).toNat by omega, show t2.toNat + (-t1).toNat - (t2 - t1).toNat = t1.toNat + (-t2).toNat - (t1 - t2).toNat by omega]
  exact (cmpV_scale (Nat.mul_pos (Nat.pow_pos (by decide)) (Nat.two_pow_pos _))).symm
theorem exP_zero (t f : Int) : exP 0 t f = 0 := by unfold exP; simp
theorem exP_pos {N : Nat} (t f : Int) (h : 0 < N) : 0 < exP N t f := Nat.mul_pos (Nat.mul_pos h (Nat.pow_pos (by decide))) (Nat.two_pow_pos _)
theorem exC_zero_l {N2 : Nat} {t1 f1 t2 f2 : Int} : exC 0 t1 f1 N2 t2 f2 = cmpV 0 (N2 : Int) := by
  unfold exC
  rw [exP_zero, Nat.zero_mul]
  rcases Nat.eq_zero_or_pos N2 with h | h
  · subst h; rw [exP_zero, Nat.zero_mul]; rfl
  · have h2 := Nat.mul_pos (exP_pos t2 f2 h) (exQ_pos t1 f1)
    rw [cmpV_lt (a := 0) (b := (N2 : Int)) (by omega), cmpV_lt (by omega)]
theorem exC_zero_r {N1 : Nat} {t1 f1 t2 f2 : Int} : exC N1 t1 f1 0 t2 f2 = cmpV (N1 : Int) 0 := by
  unfold exC
  rw [exP_zero, Nat.zero_mul]
  rcases Nat.eq_zero_or_pos N1 with h | h
  · subst h; rw [exP_zero, Nat.zero_mul]; rfl
  · have h2 := Nat.mul_pos (exP_pos t1 f1 h) (exQ_pos t2 f2)
    rw [cmpV_gt (a := (N1 : Int)) (b := 0) (by omega), cmpV_gt (by omega)]
/-- A size against a boundary: is it to be rounded down? -/
theorem exC_wi {kd wd mn bs key N m : Nat} {t f e : Int} (he : 0 ≤ (2000 : Int) + e) (hm : m * 2 ^ ((2000 : Int) + e).toNat = uN kd wd mn bs (2 * key + 1)) :
    ((exC N t f m e 0 < 0) ↔ exP N t f * sc2 < uN kd wd mn bs (2 * key + 1) * exQ t f) ∧ ((exC N t f m e 0 = 0) ↔ exP N t f * sc2 = uN kd wd mn bs (2 * key + 1) * exQ t f) := by
  have e1 : exP m e 0 = m * 2 ^ e.toNat := by unfold exP; simp
  have e2 : exQ e 0 = 2 ^ (-e).toNat := by unfold exQ; simp
  have h0 : 2000 = (-e).toNat + (2000 - (-e).toNat) := by omega
  have h1 : ((2000 : Int) + e).toNat = e.toNat + (2000 - (-e).toNat) := by omega
  generalize hc : 2000 - (-e).toNat = c at h0 h1
  have hs : sc2 = 2 ^ (-e).toNat * 2 ^ c := by unfold sc2; rw [← Nat.pow_add, ← h0]
  rw [← hm, h1, hs, Nat.pow_add]
  unfold exC
  rw [e1, e2]
  have l1 : exP N t f * (2 ^ (-e).toNat * 2 ^ c) = exP N t f * 2 ^ (-e).toNat * 2 ^ c := by ac_rfl
  have l2 : m * (2 ^ e.toNat * 2 ^ c) * exQ t f = m * 2 ^ e.toNat * exQ t f * 2 ^ c := by ac_rfl
  rw [l1, l2]
  have hp := Nat.two_pow_pos c
  generalize exP N t f * 2 ^ (-e).toNat = X
  generalize m * 2 ^ e.toNat * exQ t f = Y
  generalize 2 ^ c = C at hp
  have hlt : X * C < Y * C ↔ X < Y := ⟨fun h => Nat.lt_of_mul_lt_mul_right h, fun h => Nat.mul_lt_mul_of_pos_right h hp⟩
  have heq : X * C = Y * C ↔ X = Y := ⟨fun h => Nat.eq_of_mul_eq_mul_right hp h, fun h => by rw [h]⟩
  rw [hlt, heq]
  rcases cmpV_cases (X : Int) (Y : Int) with ⟨h, hv⟩ | ⟨h, hv⟩ | ⟨h, hv⟩ <;> rw [hv] <;> constructor <;> constructor <;> intro h' <;> omega
/-- Far from one another. -/
theorem exC_far_gt {N1 N2 b1 b2 : Nat} {t1 f1 t2 f2 : Int} (h1 : N1 < 2 ^ b1) (h1' : 2 ^ b1 ≤ 2 * N1) (h2 : N2 < 2 ^ b2) (h2' : 2 ^ b2 ≤ 2 * N2) (hf1 : -5000 ≤ f1 ∧ f1 ≤ 5000) (hf2 : -5000 ≤ f2 ∧ f2 ≤ 5000) (hT1 : -20000 ≤ t1 ∧ t1 ≤ 20000) (hT2 : -20000 ≤ t2 ∧ t2 ≤ 20000)
    (hfar : 6 < exS b1 t1 f1 - exS b2 t2 f2) : exC N1 t1 f1 N2 t2 f2 = 1 := by
  unfold exC
  exact cmpV_gt (by exact_mod_cast exS_far h1 h1' h2 h2' hf1 hf2 hT1 hT2 hfar)
theorem exC_far_lt {N1 N2 b1 b2 : Nat} {t1 f1 t2 f2 : Int} (h1 : N1 < 2 ^ b1) (h1' : 2 ^ b1 ≤ 2 * N1) (h2 : N2 < 2 ^ b2) (h2' : 2 ^ b2 ≤ 2 * N2) (hf1 : -5000 ≤ f1 ∧ f1 ≤ 5000) (hf2 : -5000 ≤ f2 ∧ f2 ≤ 5000) (hT1 : -20000 ≤ t1 ∧ t1 ≤ 20000) (hT2 : -20000 ≤ t2 ∧ t2 ≤ 20000)
    (hfar : exS b1 t1 f1 - exS b2 t2 f2 < -6) : exC N1 t1 f1 N2 t2 f2 = -1 := by
  unfold exC
  exact cmpV_lt (by exact_mod_cast exS_far h2 h2' h1 h1' hf2 hf1 hT2 hT1 (by omega))
/-- A magnitude's number with so many bits more, made odd. -/
def magV (id : Int) (more key : Nat) : Nat × Int := oddP 64 (numQ (fK id).toNat (fW id).toNat (fM id).toNat (fB id).toNat more key).1 (numQ (fK id).toNat (fW id).toNat (fM id).toNat (fB id).toNat more key).2
theorem oddP_odd (f m : Nat) (e : Int) (h : m % 2 = 1) : oddP f m e = (m, e) := by
  unfold oddP
  rw [if_neg (by omega)]
  have : tzN f m = 0 := by
    cases f with
    | zero => rfl
    | succ f => unfold tzN; rw [if_neg (by omega)]
  rw [this]; simp
theorem miM_zero (man : Nat) : miM man 0 = 0 := by unfold miM; simp
theorem miM_pos {man key : Nat} (h : 0 < key) : 0 < miM man key := by
  unfold miM
  split
  · rename_i h1
    have h2 := Nat.mod_add_div key (2 ^ man)
    rw [h1] at h2
    omega
  · have := Nat.two_pow_pos man
    omega
theorem miM_lt (man key : Nat) : miM man key < 2 ^ (man + 1) := by
  have h1 := Nat.mod_lt key (Nat.two_pow_pos man)
  unfold miM
  rw [Nat.pow_succ]
  split <;> omega
end Go.Cal
namespace Go.Cal
/-- Is a size P / Q to be rounded to a magnitude of a form, or a lesser one? -/
def wiF (id : Int) (P Q key : Nat) : Bool := wiN (fK id).toNat (fW id).toNat (fM id).toNat (fB id).toNat P Q key
/-- The magnitude of a size, where it is not too large. -/
def nearK (id : Int) (neg : Bool) (P Q : Nat) : Nat :=
  if fK id = 1 ∧ seek (wiF id P Q) (mostV id neg).toNat (fW id).toNat 0 = 0 ∧ P ≠ 0 then 1 else seek (wiF id P Q) (mostV id neg).toNat (fW id).toNat 0
def overB (id : Int) (neg : Bool) (P Q : Nat) : Bool := !wiF id P Q (mostV id neg).toNat
/-- The pattern of a number; what is wrong beside it. -/
def roundE (id mode : Int) : Int := if id < 1 ∨ 15 ≤ id then 3 else if mode ≠ 1 ∧ mode ≠ 2 then 1 else 0
def roundP (id mode : Int) (neg : Bool) (P Q : Nat) : Int :=
  if fK id = 4 ∧ (neg = true ∨ P = 0) then fN id
  else if overB id neg P Q = true then largeV id mode neg
  else patV id neg (nearK id neg P Q)
theorem fo_nat {id : Int} (h1 : 1 ≤ id) (h2 : id < 15) (neg : Bool) : (fB id).toNat ≤ 1900 ∧ (fB id).toNat + (fM id).toNat ≤ 1900 ∧ 2 ≤ (fW id).toNat ∧ (fW id).toNat ≤ 300 ∧ ((fK id).toNat = 1 ↔ fK id = 1) ∧ ((fK id).toNat = 1 → 2 * (mostV id neg).toNat + 1 < 2 ^ (fW id).toNat) ∧ (mostV id neg).toNat < 2 ^ (fW id).toNat := by
  rcases id_cases h1 h2 with rfl | rfl | rfl | rfl | rfl | rfl | rfl | rfl | rfl | rfl | rfl | rfl | rfl | rfl <;> cases neg <;> decide +kernel
theorem wiF_mono {id : Int} {neg : Bool} (h1 : 1 ≤ id) (h2 : id < 15) {P Q i j : Nat} (hq : 0 < Q) (h : i ≤ j) (hj : j ≤ (mostV id neg).toNat) (hi : wiF id P Q i = true) : wiF id P Q j = true := by
  obtain ⟨b1, _, b3, b4, _, b6, _⟩ := fo_nat h1 h2 neg
  exact wiN_mono hq (fun hk => ⟨by omega, b4, by have := b6 hk; omega⟩) b1 h hi
theorem nearK_le (id : Int) (neg : Bool) (P Q : Nat) : (nearK id neg P Q : Int) ≤ mostV id neg := by
  have hm := mostV_bnd id neg
  have hs := seek_le (wi := wiF id P Q) (most := (mostV id neg).toNat) (fW id).toNat 0 (Nat.zero_le _)
  unfold nearK
  split <;> omega
end Go.Cal
namespace Go.Cal
/-- The search finds the least magnitude behind which a boundary is not below. -/
theorem seek_wi {id : Int} {neg : Bool} {P Q a : Nat} (h1 : 1 ≤ id) (h2 : id < 15) (hq : 0 < Q) (ha : wiF id P Q a = true) (hl : ∀ i, i < a → wiF id P Q i = false) (hle : a ≤ (mostV id neg).toNat) : seek (wiF id P Q) (mostV id neg).toNat (fW id).toNat 0 = a := by
  obtain ⟨b1, _, b3, b4, b5, b6, b7⟩ := fo_nat h1 h2 neg
  have hmo : ∀ i j, i ≤ j → (fun k => wiF id P Q (min k (mostV id neg).toNat)) i = true → (fun k => wiF id P Q (min k (mostV id neg).toNat)) j = true := fun i j hij hi =>
    wiF_mono (neg := neg) h1 h2 hq (by omega) (Nat.min_le_right _ _) hi
  have e : ∀ b k, k ≤ (mostV id neg).toNat → seek (wiF id P Q) (mostV id neg).toNat b k = seek (fun k => wiF id P Q (min k (mostV id neg).toNat)) (mostV id neg).toNat b k := by
    intro b
    induction b with
    | zero => intros; unfold seek; rfl
    | succ b ih =>
      intro k hk
      have hp := Nat.two_pow_pos b
      unfold seek
      by_cases hb : k + 2 ^ b ≤ (mostV id neg).toNat
      · rw [show min (k + 2 ^ b - 1) (mostV id neg).toNat = k + 2 ^ b - 1 by omega]
        refine ih _ ?_
        split <;> omega
      · rw [if_neg (fun hh => hb hh.1), if_neg (fun hh => hb hh.1)]
        exact ih _ hk
  rw [e _ _ (Nat.zero_le _)]
  exact seek_is hmo (by show wiF id P Q (min a _) = true; rw [Nat.min_eq_left (by omega)]; exact ha) (fun i hi => by show wiF id P Q (min i _) = false; rw [Nat.min_eq_left (by omega)]; exact hl i hi) (by omega) _ _ (Nat.zero_le _) (by omega)
/-- A size that lies where a magnitude's sizes lie is rounded to it. -/
theorem round_at {id mode : Int} {neg : Bool} {P Q key : Nat} (hE : mostE id neg = 0) (hq : 0 < Q) (hp : 0 < P) (hk : (key : Int) ≤ mostV id neg) (hk1 : fK id = 1 → 0 < key)
    (hlow : (fK id = 1 ∧ key = 1) ∨ ∀ i, i < key → wiF id P Q i = false)
    (hhigh : wiF id P Q key = true ∨ ((key : Int) = mostV id neg ∧ largeV id mode neg = patV id neg (mostV id neg))) : roundP id mode neg P Q = patV id neg key := by
  obtain ⟨h1, h2, h3⟩ := mostE_zero hE
  have hm := mostV_bnd id neg
  have h4 : ¬ (fK id = 4 ∧ (neg = true ∨ P = 0)) := by
    rintro ⟨hk4, hn⟩
    rcases hn with hn | hn
    · exact h3 hn hk4
    · omega
  unfold roundP
  rw [if_neg h4]
  by_cases hw : wiF id P Q (mostV id neg).toNat = true
  · have hw1 : wiF id P Q key = true := by
      rcases hhigh with h | ⟨h, _⟩
      · exact h
      · rw [← h] at hw; simpa using hw
    rw [if_neg (by unfold overB; rw [hw]; decide)]
    rcases hlow with ⟨k1, k2⟩ | hl
    · subst k2
      unfold nearK
      by_cases h0 : wiF id P Q 0 = true
      · rw [seek_wi h1 h2 hq h0 (fun i hi => by omega) (Nat.zero_le _), if_pos ⟨k1, rfl, by omega⟩]
      · rw [seek_wi h1 h2 hq hw1 (fun i hi => by obtain rfl : i = 0 := by omega
                                                 simpa using h0) (by omega), if_neg (fun h => by have := h.2.1; omega)]
    · unfold nearK
      rw [seek_wi h1 h2 hq hw1 hl (by omega), if_neg (fun h => by have := hk1 h.1; have := h.2.1; omega)]
  · rcases hhigh with h | ⟨h, hL⟩
    · exact absurd (wiF_mono (neg := neg) h1 h2 hq (by omega) (Nat.le_refl _) h) hw
    · have hw' : wiF id P Q (mostV id neg).toNat = false := by simpa using hw
      rw [if_pos (by unfold overB; rw [hw']; rfl), hL, h]
/-- The sizes that a magnitude stands for: between two boundaries; the number 0 stands for none. -/
structure Itv where
  lowN : Nat
  lowT : Int
  highN : Nat
  highT : Int
  even : Bool
/-- Does a number of tens lie in it? -/
def itvHas (i : Itv) (d : Nat) (k : Int) : Bool :=
  (decide (0 < exC d k k i.lowN i.lowT 0) || (exC d k k i.lowN i.lowT 0 == 0 && i.even && decide (0 < i.lowN))) &&
  (decide ((if 0 < i.highN then exC d k k i.highN i.highT 0 else -1) < 0) || ((if 0 < i.highN then exC d k k i.highN i.highT 0 else -1) == 0 && i.even))
/-- How often a power of ten goes into a number, and what is left. -/
def flA (m : Nat) (e k : Int) : Nat := exP m (e - k) (-k)
def flB (e k : Int) : Nat := exP 1 (k - e) k
def flQ (m : Nat) (e k : Int) : Nat := flA m e k / flB e k
def flR (m : Nat) (e k : Int) : Int := if flA m e k % flB e k = 0 then 0 else 2 + cmpV ((2 * (flA m e k % flB e k) : Nat) : Int) ((flB e k : Nat) : Int)
/-- The one of two neighbours that is in an interval, and nearer. -/
def nigV (i : Itv) (m : Nat) (e k : Int) : Option Nat :=
  if itvHas i (flQ m e k) k = true ∧ (0 < flR m e k ∧ itvHas i (flQ m e k + 1) k = true) then (if 2 < flR m e k ∨ (flR m e k = 2 ∧ flQ m e k % 2 = 1) then some (flQ m e k + 1) else some (flQ m e k))
  else if 0 < flR m e k ∧ itvHas i (flQ m e k + 1) k = true then some (flQ m e k + 1)
  else if itvHas i (flQ m e k) k = true then some (flQ m e k) else none
theorem nearV_some {i : Itv} {m d : Nat} {e k : Int} (h : nigV i m e k = some d) : itvHas i d k = true ∧ (d = flQ m e k ∨ (d = flQ m e k + 1 ∧ 0 < flR m e k)) := by
  unfold nigV at h
  split at h
  · rename_i hb
    split at h
    · injection h with h; subst h; exact ⟨hb.2.2, .inr ⟨rfl, hb.2.1⟩⟩
    · injection h with h; subst h; exact ⟨hb.1, .inl rfl⟩
  · split at h
    · rename_i hb; injection h with h; subst h; exact ⟨hb.2, .inr ⟨rfl, hb.1⟩⟩
    · split at h
      · rename_i hb; injection h with h; subst h; exact ⟨hb, .inl rfl⟩
      · cases h
/-- From a power of ten down: the first one where one is. -/
def seekV (i : Itv) (m : Nat) (e : Int) : Nat → Int → Nat × Int
  | 0, k => (0, k)
  | f + 1, k => match nigV i m e k with
    | some d => (d, k)
    | none => seekV i m e f (k - 1)
theorem seekV_is {i : Itv} {m : Nat} {e : Int} : ∀ (f : Nat) (k kx : Int), k - kx < f → 0 < f → (∀ j, j ≤ kx → nigV i m e j ≠ none) → ∃ d k', seekV i m e f k = (d, k') ∧ nigV i m e k' = some d ∧ k' ≤ k ∧ min k kx ≤ k'
  | 0, k, kx, _, h0, _ => by omega
  | f + 1, k, kx, hf, _, hx => by
    cases hn : nigV i m e k with
    | some d => exact ⟨d, k, by unfold seekV; rw [hn], hn, Int.le_refl _, by omega⟩
    | none =>
      have hk : kx < k := Classical.byContradiction fun h => hx k (by omega) hn
      obtain ⟨d, k', h1, h2, h3, h4⟩ := seekV_is f (k - 1) kx (by omega) (by omega) hx
      exact ⟨d, k', by unfold seekV; rw [hn]; exact h1, h2, by omega, by omega⟩
/-- Without the noughts at the end. -/
def stripV : Nat → Nat → Int → Nat × Int
  | 0, d, k => (d, k)
  | f + 1, d, k => if d = 0 ∨ d % 10 ≠ 0 then (d, k) else stripV f (d / 10) (k + 1)
theorem stripV_is : ∀ (f d : Nat) (k : Int), 0 < d → d < 10 ^ f → ∃ z : Nat, stripV f d k = (d / 10 ^ z, k + z) ∧ d / 10 ^ z * 10 ^ z = d ∧ d / 10 ^ z % 10 ≠ 0 ∧ z < f
  | 0, d, k, h0, h => by omega
  | f + 1, d, k, h0, h => by
    unfold stripV
    by_cases hd : d % 10 ≠ 0
    · rw [if_pos (.inr hd)]
      exact ⟨0, by simp, by simp, by simpa using hd, by omega⟩
    · rw [if_neg (by omega)]
      have hm : d / 10 * 10 = d := by omega
      obtain ⟨z, e1, e2, e3, e4⟩ := stripV_is f (d / 10) (k + 1) (by omega) (by rw [Nat.pow_succ] at h; omega)
      have hq : d / 10 / 10 ^ z = d / 10 ^ (z + 1) := by rw [Nat.div_div_eq_div_mul, Nat.pow_succ, Nat.mul_comm]
      rw [hq] at e1 e2 e3
      refine ⟨z + 1, ?_, ?_, e3, by omega⟩
      · rw [e1]; congr 1; push_cast; omega
      · calc d / 10 ^ (z + 1) * 10 ^ (z + 1) = d / 10 ^ (z + 1) * 10 ^ z * 10 := by rw [Nat.mul_assoc, ← Nat.pow_succ]
          _ = d := by rw [e2, hm]
theorem itv_pos {i : Itv} {d : Nat} {k : Int} (h : itvHas i d k = true) : 0 < d := by
  rcases Nat.eq_zero_or_pos d with h0 | h0
  · subst h0
    exfalso
    unfold itvHas at h
    rw [Bool.and_eq_true, exC_zero_l] at h
    have h1 := h.1
    rcases Nat.eq_zero_or_pos i.lowN with hl | hl
    · rw [hl] at h1
      have : cmpV 0 ((0 : Nat) : Int) = 0 := rfl
      rw [this] at h1
      simp at h1
    · rw [cmpV_lt (a := 0) (b := (i.lowN : Int)) (by omega)] at h1
      simp at h1
  · exact h0
/-- What is left over nothing: the number itself. -/
theorem fl_exact {m : Nat} {e k : Int} (h : flA m e k % flB e k = 0) : exP (flQ m e k) k k * exQ e 0 = exP m e 0 * exQ k k := by
  have hB : 0 < flB e k := exP_pos _ _ (by decide)
  have hAB : flQ m e k * flB e k = flA m e k := by
    unfold flQ
    exact Nat.div_mul_cancel (Nat.dvd_of_mod_eq_zero h)
  have c1 := exP_cross (flQ m e k) k k e 0
  have c2 := exP_cross m e 0 k k
  rw [c1, c2]
  have e1 : exP (flQ m e k) (k - e) (k - 0) = flQ m e k * flB e k := by
    unfold flB exP
    rw [Nat.one_mul, Int.sub_zero, Nat.mul_assoc]
  have e2 : exP m (e - k) (0 - k) = flA m e k := by unfold flA; rw [Int.zero_sub]
  rw [e1, e2, hAB]
  congr 3 <;> omega
end Go.Cal
namespace Go.Cal
/-- The bits of a key, the highest first, as a text. -/
def bitS : Nat → Nat → List UInt8
  | 0, _ => []
  | n + 1, key => UInt8.ofNat (48 + key / 2 ^ n % 2) :: bitS n key
/-- The number of such a text. -/
def bitN : List UInt8 → Nat → Nat
  | [], a => a
  | c :: r, a => bitN r (2 * a + (c.toNat - 48))
theorem bitS_len : ∀ (n key : Nat), (bitS n key).length = n
  | 0, _ => rfl
  | n + 1, key => by rw [bitS, List.length_cons, bitS_len n key]
theorem bit_byte (b : Nat) (h : b < 2) : (UInt8.ofNat (48 + b)).toNat = 48 + b := by
  have : b = 0 ∨ b = 1 := by omega
  rcases this with rfl | rfl <;> rfl
theorem bitS_get : ∀ (n key j : Nat), j < n → (bitS n key).getD j 0 = UInt8.ofNat (48 + key / 2 ^ (n - 1 - j) % 2)
  | 0, _, _, h => by omega
  | n + 1, key, 0, _ => by rw [bitS]; rfl
  | n + 1, key, j + 1, h => by
    rw [bitS, List.getD_cons_succ, bitS_get n key j (by omega), show n + 1 - 1 - (j + 1) = n - 1 - j by omega]
theorem bitS_drop : ∀ (n key k : Nat), k ≤ n → (bitS n key).drop k = bitS (n - k) key
  | n, key, 0, _ => by rw [List.drop_zero, Nat.sub_zero]
  | 0, _, k + 1, h => by omega
  | n + 1, key, k + 1, h => by rw [bitS, List.drop_succ_cons, bitS_drop n key k (by omega), show n + 1 - (k + 1) = n - k by omega]
theorem bitS_take : ∀ (n key k : Nat), k ≤ n → (bitS n key).take k = bitS k (key / 2 ^ (n - k))
  | n, key, 0, _ => by rw [List.take_zero, bitS]
  | 0, _, k + 1, h => by omega
  | n + 1, key, k + 1, h => by
    rw [bitS, List.take_succ_cons, bitS_take n key k (by omega), bitS, show n + 1 - (k + 1) = n - k by omega, Nat.div_div_eq_div_mul, ← Nat.pow_add, show n - k + k = n by omega]
theorem bitN_snoc : ∀ (l : List UInt8) (a : Nat) (c : UInt8), bitN (l ++ [c]) a = 2 * bitN l a + (c.toNat - 48)
  | [], a, c => rfl
  | d :: l, a, c => by rw [List.cons_append, bitN, bitN, bitN_snoc l]
theorem bitN_bitS : ∀ (n key a : Nat), bitN (bitS n key) a = a * 2 ^ n + key % 2 ^ n
  | 0, key, a => by rw [bitS, bitN, Nat.pow_zero, Nat.mul_one, Nat.mod_one, Nat.add_zero]
  | n + 1, key, a => by
    rw [bitS, bitN, bit_byte _ (Nat.mod_lt _ (by decide)), bitN_bitS n key, Nat.pow_succ, Nat.mod_mul]
    rw [show 48 + key / 2 ^ n % 2 - 48 = key / 2 ^ n % 2 by omega, Nat.add_mul, Nat.mul_comm 2 a, Nat.mul_assoc, Nat.mul_comm 2 (2 ^ n), Nat.mul_comm (key / 2 ^ n % 2)]
    omega
/-- How many bits ahead are as the first one. -/
structure RunOf (s : List UInt8) (R : Nat) : Prop where
  le : R ≤ s.length
  same : ∀ i, i < R → s.getD i 0 = s.getD 0 0
  stop : R < s.length → s.getD R 0 ≠ s.getD 0 0
theorem bit_of_lt {key m : Nat} (h : key < 2 ^ m) : key / 2 ^ m = 0 := Nat.div_eq_of_lt h
theorem bit_top {key : Nat} (h : 0 < key) : key / 2 ^ (bl key - 1) = 1 := by
  obtain ⟨h1, h2⟩ := bl_pos h
  have h3 := bl_lt key
  have e : 2 ^ bl key = 2 ^ (bl key - 1) * 2 := by rw [← Nat.pow_succ]; congr 1; omega
  rw [e] at h3
  have hp := Nat.two_pow_pos (bl key - 1)
  refine Nat.div_eq_of_lt_le (by omega) (by omega)
theorem bit_not {n key m : Nat} (h : key < 2 ^ n) (hm : m < n) : key / 2 ^ m % 2 = 1 - (2 ^ n - 1 - key) / 2 ^ m % 2 := by
  have e : ((2 ^ n - 1 - key) / 2 ^ m % 2 = 1) ↔ (2 ^ n - 1 - key).testBit m = true := by
    rw [Nat.testBit_eq_decide_div_mod_eq]; simp
  have f : (key / 2 ^ m % 2 = 1) ↔ key.testBit m = true := by
    rw [Nat.testBit_eq_decide_div_mod_eq]; simp
  have g : (2 ^ n - 1 - key).testBit m = !key.testBit m := by
    rw [show 2 ^ n - 1 - key = 2 ^ n - (key + 1) by omega, Nat.testBit_two_pow_sub_succ h]
    simp [hm]
  rw [g] at e
  cases hb : key.testBit m <;> rw [hb] at e f <;> simp at e f <;> omega
/-- A key's run: of noughts, or of ones. -/
theorem run_zero {n key : Nat} (hn : 1 ≤ n) (h0 : 0 < key) (h : key < 2 ^ (n - 1)) : (bitS n key).getD 0 0 = 48 ∧ RunOf (bitS n key) (n - bl key) ∧ 1 ≤ n - bl key ∧ n - bl key < n := by
  have hb := bl_iff.2 h
  obtain ⟨hp, -⟩ := bl_pos h0
  have h00 : (bitS n key).getD 0 0 = 48 := by
    rw [bitS_get n key 0 (by omega), show n - 1 - 0 = n - 1 by omega, bit_of_lt h]; rfl
  refine ⟨h00, ⟨by rw [bitS_len]; omega, fun i hi => ?_, fun hi => ?_⟩, by omega, by omega⟩
  · rw [h00, bitS_get n key i (by omega), bit_of_lt (bl_iff.1 (by omega))]; rfl
  · rw [bitS_len] at hi
    rw [h00, bitS_get n key _ hi, show n - 1 - (n - bl key) = bl key - 1 by omega, bit_top h0]
    decide
theorem run_ones {n key : Nat} (hn : 1 ≤ n) (h : key < 2 ^ n) (h2 : 2 ^ (n - 1) ≤ key) : (bitS n key).getD 0 0 = 49 ∧ RunOf (bitS n key) (n - bl (2 ^ n - 1 - key)) ∧ 1 ≤ n - bl (2 ^ n - 1 - key) := by
  have e : 2 ^ n = 2 ^ (n - 1) * 2 := by rw [← Nat.pow_succ]; congr 1; omega
  obtain ⟨c, hc⟩ : ∃ c, 2 ^ n - 1 - key = c := ⟨_, rfl⟩
  have hcl : c < 2 ^ (n - 1) := by omega
  have hb := bl_iff.2 hcl
  have hbit : ∀ m, m < n → key / 2 ^ m % 2 = 1 - c / 2 ^ m % 2 := fun m hm => by rw [← hc]; exact bit_not h hm
  rw [hc]
  have h00 : (bitS n key).getD 0 0 = 49 := by
    rw [bitS_get n key 0 (by omega), hbit _ (by omega), show n - 1 - 0 = n - 1 by omega, bit_of_lt hcl]; rfl
  refine ⟨h00, ⟨by rw [bitS_len]; omega, fun i hi => ?_, fun hi => ?_⟩, by omega⟩
  · rw [h00, bitS_get n key i (by omega), hbit _ (by omega), bit_of_lt (bl_iff.1 (by omega))]; rfl
  · rw [bitS_len] at hi
    have h0 : 0 < c := by
      rcases Nat.eq_zero_or_pos c with h9 | h9
      · rw [h9, bl_zero] at hi; omega
      · exact h9
    rw [h00, bitS_get n key _ hi, hbit _ (by omega), show n - 1 - (n - bl c) = bl c - 1 by omega, bit_top h0]
    decide
/-- The exponent's text: the first two bits behind the run, with noughts. -/
theorem exp_text (L key : Nat) : bitN ((bitS L key ++ [48, 48]).take 2) 0 = poE L (key % 2 ^ L) := by
  rcases Nat.lt_or_ge L 2 with h2 | h2
  · have : L = 0 ∨ L = 1 := by omega
    rcases this with rfl | rfl
    · simp [bitS, bitN, poE, Nat.mod_one]
    · rw [bitS, bitS]
      simp only [List.cons_append, List.nil_append, List.take_succ_cons, List.take_zero, bitN]
      rw [bit_byte _ (Nat.mod_lt _ (by decide))]
      simp [poE]
      omega
  · rw [List.take_append_of_le_length (by rw [bitS_len]; omega), bitS_take L key 2 h2, bitN_bitS, Nat.zero_mul, Nat.zero_add]
    unfold poE
    rw [show 2 - L = 0 by omega, Nat.pow_zero, Nat.mul_one]
    have e : 2 ^ L = 2 ^ (L - 2) * 2 ^ 2 := by rw [← Nat.pow_add]; congr 1; omega
    rw [e, Nat.mod_mul_right_div_self]
theorem frac_text {L key : Nat} (h : 2 ≤ L) : bitN ((bitS L key).drop 2) 0 = key % 2 ^ L % 2 ^ (L - 2) := by
  rw [bitS_drop L key 2 h, bitN_bitS, Nat.zero_mul, Nat.zero_add, Nat.mod_mod_of_dvd _ (Nat.pow_dvd_pow 2 (by omega))]
end Go.Cal
namespace Go.Cal
/-- The search bit by bit finds the least one. -/
theorem seek_least {id : Int} {neg : Bool} {P Q a : Nat} (h1 : 1 ≤ id) (h2 : id < 15) (hq : 0 < Q) (ha : wiF id P Q a = true) (hl : ∀ i, i < a → wiF id P Q i = false) (hle : a ≤ (mostV id neg).toNat) : seek (wiF id P Q) (mostV id neg).toNat (fW id).toNat 0 = a := by
  obtain ⟨b1, _, b3, b4, b5, b6, b7⟩ := fo_nat h1 h2 neg
  have hmo : ∀ i j, i ≤ j → (fun k => wiF id P Q (min k (mostV id neg).toNat)) i = true → (fun k => wiF id P Q (min k (mostV id neg).toNat)) j = true := fun i j hij hi =>
    wiF_mono (neg := neg) h1 h2 hq (by omega) (Nat.min_le_right _ _) hi
  have e : ∀ b k, k ≤ (mostV id neg).toNat → seek (wiF id P Q) (mostV id neg).toNat b k = seek (fun k => wiF id P Q (min k (mostV id neg).toNat)) (mostV id neg).toNat b k := by
    intro b
    induction b with
    | zero => intros; unfold seek; rfl
    | succ b ih =>
      intro k hk
      have hp := Nat.two_pow_pos b
      unfold seek
      by_cases hb : k + 2 ^ b ≤ (mostV id neg).toNat
      · rw [show min (k + 2 ^ b - 1) (mostV id neg).toNat = k + 2 ^ b - 1 by omega]
        refine ih _ ?_
        split <;> omega
      · rw [if_neg (fun hh => hb hh.1), if_neg (fun hh => hb hh.1)]
        exact ih _ hk
  rw [e _ _ (Nat.zero_le _)]
  exact seek_is hmo (by show wiF id P Q (min a _) = true; rw [Nat.min_eq_left (by omega)]; exact ha) (fun i hi => by show wiF id P Q (min i _) = false; rw [Nat.min_eq_left (by omega)]; exact hl i hi) hle _ _ (Nat.zero_le _) (by omega)
/-- Between these two lies the least one. -/
structure Bis (wi : Nat → Bool) (low high : Nat) : Prop where
  le : low ≤ high
  lo : ∀ i, i < low → wi i = false
  hi : wi high = true
theorem Bis.yes {wi : Nat → Bool} {low high : Nat} (h : Bis wi low high) {mid : Nat} (hm : low ≤ mid) (hw : wi mid = true) : Bis wi low mid := ⟨hm, h.lo, hw⟩
theorem Bis.no {id : Int} {neg : Bool} {P Q low high : Nat} (h1 : 1 ≤ id) (h2 : id < 15) (hq : 0 < Q) (hle : high ≤ (mostV id neg).toNat) (h : Bis (wiF id P Q) low high) {mid : Nat} (hm : mid < high) (hw : wiF id P Q mid = false) : Bis (wiF id P Q) (mid + 1) high := by
  refine ⟨hm, fun i hi => ?_, h.hi⟩
  cases hc : wiF id P Q i with
  | false => rfl
  | true =>
    have := wiF_mono (neg := neg) h1 h2 hq (show i ≤ mid by omega) (by omega) hc
    rw [hw] at this
    cases this
theorem Bis.end {id : Int} {neg : Bool} {P Q a : Nat} (h1 : 1 ≤ id) (h2 : id < 15) (hq : 0 < Q) (hle : a ≤ (mostV id neg).toNat) (h : Bis (wiF id P Q) a a) : nearK id neg P Q = if fK id = 1 ∧ a = 0 ∧ P ≠ 0 then 1 else a := by
  have hs := seek_least (neg := neg) h1 h2 hq h.hi h.lo hle
  unfold nearK
  rw [hs]
/-- How often a number is halved until it is odd. -/
theorem tz_go {f m t : Nat} (h : t < tzN f m) : m / 2 ^ t % 2 = 0 ∧ t < f := by
  induction f generalizing m t with
  | zero => simp [tzN] at h
  | succ f ih =>
    unfold tzN at h
    by_cases h2 : m % 2 = 0
    · rw [if_pos h2] at h
      cases t with
      | zero => rw [Nat.pow_zero, Nat.div_one]; exact ⟨h2, by omega⟩
      | succ t =>
        obtain ⟨a, b⟩ := ih (m := m / 2) (t := t) (by omega)
        rw [Nat.pow_succ, Nat.mul_comm, ← Nat.div_div_eq_div_mul]
        exact ⟨a, by omega⟩
    · rw [if_neg h2] at h; omega
theorem tz_end {f m : Nat} (h0 : 0 < m) (hm : m < 2 ^ f) : m / 2 ^ tzN f m % 2 = 1 := by
  induction f generalizing m with
  | zero => simp at hm; omega
  | succ f ih =>
    unfold tzN
    by_cases h2 : m % 2 = 0
    · rw [if_pos h2, Nat.pow_succ, Nat.mul_comm, ← Nat.div_div_eq_div_mul]
      exact ih (by omega) (by rw [Nat.pow_succ] at hm; omega)
    · rw [if_neg h2, Nat.pow_zero, Nat.div_one]; omega
theorem tz_le {f m : Nat} : tzN f m ≤ f := by
  induction f generalizing m with
  | zero => simp [tzN]
  | succ f ih =>
    unfold tzN
    split
    · have := ih (m := m / 2); omega
    · omega
end Go.Cal
