/- Plain: the table of the forms as functions; signs, magnitudes and patterns. Conditions: none. -/
/- Plain: what the code reckons of a posit's fields, of odd numbers, and of the order of numbers. Conditions: none. -/
/- Plain: what a text of a number is; the document's states. Conditions: none. -/
/- Plain: words among texts; the whole of a text, by states and by parts. Conditions: none. -/
import Derived.Test.YtdlkfnkmdlcekaaGreatDoorFo00
import Derived.Test.YtdlkfnkmdlcekaaGreatDoorFo01
import Derived.Lib.TrailingZeros
namespace Go.Cal
/-- One row of the table, by its number. -/
def fK (id : Int) : Int := match id with | 1 => 1 | 2 => 1 | 3 => 1 | 4 => 1 | 10 => 3 | 11 => 4 | _ => 2
def fW (id : Int) : Int := match id with | 2 => 16 | 3 => 32 | 4 => 64 | 7 => 6 | 8 => 6 | 9 => 4 | 12 => 16 | 13 => 32 | 14 => 64 | _ => 8
def fM (id : Int) : Int := match id with | 5 => 3 | 6 => 2 | 7 => 2 | 8 => 3 | 9 => 1 | 10 => 6 | 12 => 10 | 13 => 23 | 14 => 52 | _ => 0
def fB (id : Int) : Int := match id with | 5 => 7 | 6 => 15 | 7 => 3 | 8 => 1 | 9 => 1 | 11 => 127 | 12 => 15 | 13 => 127 | 14 => 1023 | _ => 0
def fT (id : Int) : Int := match id with | 1 => 127 | 2 => 32767 | 3 => 2147483647 | 4 => 9223372036854775807 | 5 => 126 | 6 => 123 | 7 => 31 | 8 => 31 | 9 => 7 | 10 => 127 | 11 => 254 | 12 => 31743 | 13 => 2139095039 | _ => 9218868437227405311
def fI (id : Int) : Int := match id with | 6 => 124 | 12 => 31744 | 13 => 2139095040 | 14 => 9218868437227405312 | _ => 0
def fN (id : Int) : Int := match id with | 1 => 128 | 2 => 32768 | 3 => 2147483648 | 4 => 9223372036854775808 | 5 => 127 | 6 => 126 | 11 => 255 | 12 => 32256 | 13 => 2143289344 | 14 => 9221120237041090560 | _ => 0
theorem id_cases {id : Int} (h1 : 1 ≤ id) (h2 : id < 15) : id = 1 ∨ id = 2 ∨ id = 3 ∨ id = 4 ∨ id = 5 ∨ id = 6 ∨ id = 7 ∨ id = 8 ∨ id = 9 ∨ id = 10 ∨ id = 11 ∨ id = 12 ∨ id = 13 ∨ id = 14 := by omega

theorem ft_bounds (id : Int) : 0 ≤ fW id ∧ fW id ≤ 64 ∧ 4 ≤ fW id ∧ 0 < fT id ∧ 0 ≤ fI id ∧ 0 ≤ fN id ∧ fT id < 18446744073709551616 ∧ fI id < 18446744073709551616 ∧ fN id < 18446744073709551616 := by
  unfold fW fT fI fN
  refine ⟨?_, ?_, ?_, ?_, ?_, ?_, ?_, ?_, ?_⟩ <;> (split <;> omega)
/-- What Fits tells. -/
def fitsV (id p : Int) : Int := if id < 1 ∨ 15 ≤ id then 3 else if p < 2 ^ (fW id).toNat then 0 else 1
/-- Is a pattern a number, or infinite? -/
def isnB (id p : Int) : Bool := if fK id = 2 then decide (p % 2 ^ ((fW id).toNat - 1) ≤ fT id) || (p % 2 ^ ((fW id).toNat - 1) == fI id) else (fN id == 0) || p != fN id
/-- What Canon tells. -/
def canonV (id p : Int) : Int := if fitsV id p = 0 then (if isnB id p = true then p else fN id) else 0
theorem fitsV_zero {id p : Int} (h : fitsV id p = 0) : 1 ≤ id ∧ id < 15 ∧ p < 2 ^ (fW id).toNat := by
  unfold fitsV at h
  split at h
  · omega
  · split at h
    · exact ⟨by omega, by omega, by assumption⟩
    · omega
def sgV (id : Int) : Int := if fK id = 4 then 0 else 2 ^ ((fW id).toNat - 1)
/-- What is wrong with a form and a sign; the greatest magnitude. -/
def mostE (id : Int) (neg : Bool) : Int := if id < 1 ∨ 15 ≤ id then 3 else if neg = true ∧ fK id = 4 then 5 else 0
def mostV (id : Int) (neg : Bool) : Int := if neg = true ∧ fK id = 3 then fT id + 1 else fT id
/-- The pattern of a sign and a magnitude. -/
def patV (id : Int) (neg : Bool) (key : Int) : Int := if neg = false then key else if fK id = 2 then key + 2 ^ ((fW id).toNat - 1) else (-key) % 2 ^ (fW id).toNat
/-- A pattern's sign and magnitude; its class. -/
def partN (id p : Int) : Bool := decide (fK id ≠ 4 ∧ 2 ^ ((fW id).toNat - 1) ≤ p)
def partK (id p : Int) : Int := if partN id p = false then p else if fK id = 2 then p - 2 ^ ((fW id).toNat - 1) else (-p) % 2 ^ (fW id).toNat
def classV (id p : Int) : Int := if fK id = 2 ∧ partK id p = fI id ∧ fI id ≠ 0 then 3 else if (fK id = 2 ∧ fT id < partK id p) ∨ (fK id ≠ 2 ∧ fN id ≠ 0 ∧ p = fN id) then 4 else if partK id p = 0 ∧ fK id ≠ 4 then 1 else 2
theorem mostE_zero {id : Int} {neg : Bool} (h : mostE id neg = 0) : 1 ≤ id ∧ id < 15 ∧ (neg = true → fK id ≠ 4) := by
  unfold mostE at h
  split at h
  · omega
  · split at h
    · omega
    · rename_i h1 h2
      exact ⟨by omega, by omega, fun hn hk => h2 ⟨hn, hk⟩⟩
theorem mostV_bnd (id : Int) (neg : Bool) : 0 < mostV id neg ∧ mostV id neg < 18446744073709551616 := by
  unfold mostV fT
  split <;> (split <;> first | omega | (rename_i h; revert h; simp [fK]))
theorem pat_bnd {id key : Int} {neg : Bool} (he : mostE id neg = 0) (h0 : 0 ≤ key) (h1 : key ≤ mostV id neg) : 0 ≤ patV id neg key ∧ patV id neg key < 2 ^ (fW id).toNat := by
  obtain ⟨i1, i2, i3⟩ := mostE_zero he
  rcases id_cases i1 i2 with rfl | rfl | rfl | rfl | rfl | rfl | rfl | rfl | rfl | rfl | rfl | rfl | rfl | rfl <;> cases neg <;> simp [patV, mostV, fK, fW, fT] at h1 i3 ⊢ <;> omega
theorem pat_key {id key : Int} {neg : Bool} (he : mostE id neg = 0) (h0 : 0 ≤ key) (h1 : key ≤ mostV id neg) : partK id (patV id neg key) = key := by
  obtain ⟨i1, i2, i3⟩ := mostE_zero he
  rcases id_cases i1 i2 with rfl | rfl | rfl | rfl | rfl | rfl | rfl | rfl | rfl | rfl | rfl | rfl | rfl | rfl <;> cases neg <;> simp [partK, partN, patV, mostV, fK, fW, fT] at h1 i3 ⊢ <;> (try split) <;> omega
theorem pat_neg {id key : Int} {neg : Bool} (he : mostE id neg = 0) (h0 : 0 ≤ key) (h1 : key ≤ mostV id neg) (hk : key ≠ 0 ∨ fK id = 2) : partN id (patV id neg key) = neg := by
  obtain ⟨i1, i2, i3⟩ := mostE_zero he
  rcases id_cases i1 i2 with rfl | rfl | rfl | rfl | rfl | rfl | rfl | rfl | rfl | rfl | rfl | rfl | rfl | rfl <;> cases neg <;> simp [partN, patV, mostV, fK, fW, fT] at h1 i3 hk ⊢ <;> omega
theorem pat_nought {id : Int} {neg : Bool} (hk : fK id ≠ 2) : patV id neg 0 = 0 := by
  unfold patV
  cases neg <;> simp [hk]
theorem pat_num {id key : Int} {neg : Bool} (he : mostE id neg = 0) (h0 : 0 ≤ key) (h1 : key ≤ mostV id neg) : isnB id (patV id neg key) = true := by
  obtain ⟨i1, i2, i3⟩ := mostE_zero he
  rcases id_cases i1 i2 with rfl | rfl | rfl | rfl | rfl | rfl | rfl | rfl | rfl | rfl | rfl | rfl | rfl | rfl <;> cases neg <;> simp [isnB, patV, mostV, fK, fW, fT, fN, fI] at h1 i3 ⊢ <;> omega
theorem pat_canon {id key : Int} {neg : Bool} (he : mostE id neg = 0) (h0 : 0 ≤ key) (h1 : key ≤ mostV id neg) : fitsV id (patV id neg key) = 0 ∧ canonV id (patV id neg key) = patV id neg key := by
  have hf : fitsV id (patV id neg key) = 0 := by
    obtain ⟨i1, i2, i3⟩ := mostE_zero he
    unfold fitsV
    rw [if_neg (by omega), if_pos (pat_bnd he h0 h1).2]
  refine ⟨hf, ?_⟩
  unfold canonV
  rw [if_pos hf, if_pos (pat_num he h0 h1)]
theorem pat_class {id key : Int} {neg : Bool} (he : mostE id neg = 0) (h0 : 0 ≤ key) (h1 : key ≤ mostV id neg) : classV id (patV id neg key) = if key = 0 ∧ fK id ≠ 4 then 1 else 2 := by
  have hk := pat_key he h0 h1
  unfold classV
  rw [hk]
  obtain ⟨i1, i2, i3⟩ := mostE_zero he
  rcases id_cases i1 i2 with rfl | rfl | rfl | rfl | rfl | rfl | rfl | rfl | rfl | rfl | rfl | rfl | rfl | rfl <;> cases neg <;> simp [patV, mostV, fK, fW, fT, fN, fI] at h1 i3 ⊢ <;> omega
/-- What becomes of a number that is too large. -/
def largeV (id mode : Int) (neg : Bool) : Int :=
  if mode = 1 ∨ fK id = 1 ∨ (fI id = 0 ∧ fN id = 0) then patV id neg (mostV id neg)
  else if fI id = 0 then fN id else if neg = true then fI id + 2 ^ ((fW id).toNat - 1) else fI id
theorem large_canon {id mode : Int} {neg : Bool} (he : mostE id neg = 0) : fitsV id (largeV id mode neg) = 0 ∧ canonV id (largeV id mode neg) = largeV id mode neg := by
  have hp := pat_canon (key := mostV id neg) he (by have := mostV_bnd id neg; omega) (Int.le_refl _)
  obtain ⟨i1, i2, i3⟩ := mostE_zero he
  unfold largeV
  split
  · exact hp
  · rcases id_cases i1 i2 with rfl | rfl | rfl | rfl | rfl | rfl | rfl | rfl | rfl | rfl | rfl | rfl | rfl | rfl <;> cases neg <;> simp_all [fitsV, canonV, isnB, fK, fW, fT, fN, fI]
/-- Modes differ just where a number is too large: the greatest one, and infinite or none. -/
theorem large_class {id : Int} {neg : Bool} (he : mostE id neg = 0) (hd : largeV id 1 neg ≠ largeV id 2 neg) :
    (classV id (largeV id 2 neg) = 3 ∧ partN id (largeV id 2 neg) = neg) ∨ classV id (largeV id 2 neg) = 4 := by
  obtain ⟨i1, i2, i3⟩ := mostE_zero he
  rcases id_cases i1 i2 with rfl | rfl | rfl | rfl | rfl | rfl | rfl | rfl | rfl | rfl | rfl | rfl | rfl | rfl <;> cases neg <;> simp_all [largeV, classV, partK, partN, patV, mostV, fK, fW, fT, fN, fI]
/-- The other sign. -/
theorem pat_flip_two {id key : Int} (hk : fK id = 2) : patV id true key = patV id false key + 2 ^ ((fW id).toNat - 1) := by
  simp [patV, hk]
theorem pat_flip_one {id key : Int} (hk : fK id = 1) : patV id true key = (-patV id false key) % 2 ^ (fW id).toNat := by
  simp [patV, hk]
end Go.Cal
namespace Go.Cal
theorem tzN_ctz : ∀ f m, Lib.ctzFrom f m = tzN f m
  | 0, _ => rfl
  | f + 1, m => by
    unfold Lib.ctzFrom tzN
    by_cases h : m % 2 = 1
    · rw [if_pos h, if_neg (by omega)]
    · rw [if_neg h, if_pos (by omega), tzN_ctz f (m / 2), Nat.add_comm]
theorem ctz_tz {m : Nat} (h : 0 < m) : Lib.ctz 64 m = tzN 64 m := by
  unfold Lib.ctz
  rw [if_neg (by omega), tzN_ctz]
theorem tzN_lt : ∀ (f m : Nat), 0 < m → m < 2 ^ f → tzN f m < f
  | 0, m, h0, h => by simp at h; omega
  | f + 1, m, h0, h => by
    unfold tzN
    split
    · have := tzN_lt f (m / 2) (by omega) (by rw [Nat.pow_succ] at h; omega)
      omega
    · omega
/-- The run of a key, as the code finds it: low keys, high ones. -/
theorem split_low {n key : Nat} (h0 : 0 < key) (h : key < 2 ^ (n - 1)) (hn : 2 ≤ n) : 0 < n - bl key ∧ poR n key = -((n - bl key : Nat) : Int) ∧ poL n key = n - (n - bl key) - 1 ∧ n - bl key ≤ n := by
  have h1 := bl_pos h0
  have h2 : bl key ≤ n - 1 := bl_iff.2 h
  unfold poR poL
  rw [if_pos h, if_pos h]
  omega
theorem split_high {n key : Nat} (h : key < 2 ^ n) (hg : 2 ^ (n - 1) ≤ key) (hn : 2 ≤ n) : n - bl key = 0 ∧ 0 < n - bl (2 ^ n - 1 - key) ∧ poR n key = ((n - bl (2 ^ n - 1 - key) : Nat) : Int) - 1 ∧ poL n key = n - (n - bl (2 ^ n - 1 - key)) - 1 ∧ n - bl (2 ^ n - 1 - key) ≤ n := by
  have h1 : n - 1 < bl key := by
    rcases Nat.lt_or_ge (n - 1) (bl key) with h2 | h2
    · exact h2
    · have := bl_iff.1 h2
      omega
  have h3 : bl (2 ^ n - 1 - key) ≤ n - 1 := by
    refine bl_iff.2 ?_
    have : 2 ^ n = 2 * 2 ^ (n - 1) := by rw [← Nat.pow_succ', Nat.succ_eq_add_one, show n - 1 + 1 = n by omega]
    omega
  unfold poR poL
  rw [if_neg (by omega), if_neg (by omega)]
  omega
theorem poE_one {L rest : Nat} (h : rest < 2 ^ L) : poE L rest = rest / 2 ^ (L - 2) * 2 ^ (2 - L) ∧ poE L rest < 4 := ⟨rfl, poE_lt h⟩
/-- The same, otherwise reckoned. -/
theorem exP_cross (N : Nat) (t f t' f' : Int) : exP N t f * exQ t' f' = exP N (t - t') (f - f') * (5 ^ (f.toNat + (-f').toNat - (f - f').toNat) * 2 ^ (t.toNat + (-t').toNat - (t - t').toNat)) := by
  unfold exP exQ
  have h1 : f.toNat + (-f').toNat = (f - f').toNat + (f.toNat + (-f').toNat - (f - f').toNat) := by omega
  have h2 : t.toNat + (-t').toNat = (t - t').toNat + (t.toNat + (-t').toNat - (t - t').toNat) := by omega
  have e1 : 5 ^ f.toNat * 5 ^ (-f').toNat = 5 ^ (f - f').toNat * 5 ^ (f.toNat + (-f').toNat - (f - f').toNat) := by rw [← Nat.pow_add, ← Nat.pow_add, ← h1]
  have e2 : 2 ^ t.toNat * 2 ^ (-t').toNat = 2 ^ (t - t').toNat * 2 ^ (t.toNat + (-t').toNat - (t - t').toNat) := by rw [← Nat.pow_add, ← Nat.pow_add, ← h2]
  calc N * 5 ^ f.toNat * 2 ^ t.toNat * (5 ^ (-f').toNat * 2 ^ (-t').toNat) = N * (5 ^ f.toNat * 5 ^ (-f').toNat) * (2 ^ t.toNat * 2 ^ (-t').toNat) := by ac_rfl
    _ = _ := by rw [e1, e2]; ac_rfl
theorem cmpV_scale {x y c : Nat} (h : 0 < c) : cmpV ((x * c : Nat) : Int) ((y * c : Nat) : Int) = cmpV (x : Int) (y : Int) := by
  rcases Nat.lt_trichotomy x y with h1 | h1 | h1
  · rw [cmpV_lt (by exact_mod_cast Nat.mul_lt_mul_of_pos_right h1 h), cmpV_lt (by exact_mod_cast h1)]
  · rw [h1, cmpV_eq rfl, cmpV_eq rfl]
  · rw [cmpV_gt (by exact_mod_cast Nat.mul_lt_mul_of_pos_right h1 h), cmpV_gt (by exact_mod_cast h1)]
/-- The order of two numbers: by cross products. -/
def exC (N1 : Nat) (t1 f1 : Int) (N2 : Nat) (t2 f2 : Int) : Int := cmpV ((exP N1 t1 f1 * exQ t2 f2 : Nat) : Int) ((exP N2 t2 f2 * exQ t1 f1 : Nat) : Int)
theorem exC_scaled (N1 : Nat) (t1 f1 : Int) (N2 : Nat) (t2 f2 : Int) : cmpV ((exP N1 (t1 - t2) (f1 - f2) : Nat) : Int) ((exP N2 (t2 - t1) (f2 - f1) : Nat) : Int) = exC N1 t1 f1 N2 t2 f2 := by
  unfold exC
  rw [exP_cross, exP_cross N2, show f2.toNat + (-f1).toNat - (f2 - f1).toNat = f1.toNat + (-f2).toNat - (f1 - f2).toNat by omega, show t2.toNat + (-t1).toNat - (t2 - t1).toNat = t1.toNat + (-t2).toNat - (t1 - t2).toNat by omega]
  exact (cmpV_scale (Nat.mul_pos (Nat.pow_pos (by decide)) (Nat.two_pow_pos _))).symm
theorem exP_zero (t f : Int) : exP 0 t f = 0 := by unfold exP; simp
theorem exP_pos {N : Nat} (t f : Int) (h : 0 < N) : 0 < exP N t f := Nat.mul_pos (Nat.mul_pos h (Nat.pow_pos (by decide))) (Nat.two_pow_pos _)
theorem exC_zero_l {N2 : Nat} {t1 f1 t2 f2 : Int} : exC 0 t1 f1 N2 t2 f2 = cmpV 0 (N2 : Int) := by
  unfold exC
  rw [exP_zero, Nat.zero_mul]
  rcases Nat.eq_zero_or_pos N2 with h | h
  · subst h; rw [exP_zero, Nat.zero_mul]; rfl
  · have h2 := Nat.mul_pos (exP_pos t2 f2 h) (exQ_pos t1 f1)
    rw [cmpV_lt (a := 0) (b := (N2 : Int)) (by omega), cmpV_lt (by omega)]
theorem exC_zero_r {N1 : Nat} {t1 f1 t2 f2 : Int} : exC N1 t1 f1 0 t2 f2 = cmpV (N1 : Int) 0 := by
  unfold exC
  rw [exP_zero, Nat.zero_mul]
  rcases Nat.eq_zero_or_pos N1 with h | h
  · subst h; rw [exP_zero, Nat.zero_mul]; rfl
  · have h2 := Nat.mul_pos (exP_pos t1 f1 h) (exQ_pos t2 f2)
    rw [cmpV_gt (a := (N1 : Int)) (b := 0) (by omega), cmpV_gt (by omega)]
/-- A size against a boundary: is it to be rounded down? -/
theorem exC_wi {kd wd mn bs key N m : Nat} {t f e : Int} (he : 0 ≤ (2000 : Int) + e) (hm : m * 2 ^ ((2000 : Int) + e).toNat = uN kd wd mn bs (2 * key + 1)) :
    ((exC N t f m e 0 < 0) ↔ exP N t f * sc2 < uN kd wd mn bs (2 * key + 1) * exQ t f) ∧ ((exC N t f m e 0 = 0) ↔ exP N t f * sc2 = uN kd wd mn bs (2 * key + 1) * exQ t f) := by
  have e1 : exP m e 0 = m * 2 ^ e.toNat := by unfold exP; simp
  have e2 : exQ e 0 = 2 ^ (-e).toNat := by unfold exQ; simp
  have h0 : 2000 = (-e).toNat + (2000 - (-e).toNat) := by omega
  have h1 : ((2000 : Int) + e).toNat = e.toNat + (2000 - (-e).toNat) := by omega
  generalize hc : 2000 - (-e).toNat = c at h0 h1
  have hs : sc2 = 2 ^ (-e).toNat * 2 ^ c := by unfold sc2; rw [← Nat.pow_add, ← h0]
  rw [← hm, h1, hs, Nat.pow_add]
  unfold exC
  rw [e1, e2]
  have l1 : exP N t f * (2 ^ (-e).toNat * 2 ^ c) = exP N t f * 2 ^ (-e).toNat * 2 ^ c := by ac_rfl
  have l2 : m * (2 ^ e.toNat * 2 ^ c) * exQ t f = m * 2 ^ e.toNat * exQ t f * 2 ^ c := by ac_rfl
  rw [l1, l2]
  have hp := Nat.two_pow_pos c
  generalize exP N t f * 2 ^ (-e).toNat = X
  generalize m * 2 ^ e.toNat * exQ t f = Y
  generalize 2 ^ c = C at hp
  have hlt : X * C < Y * C ↔ X < Y := ⟨fun h => Nat.lt_of_mul_lt_mul_right h, fun h => Nat.mul_lt_mul_of_pos_right h hp⟩
  have heq : X * C = Y * C ↔ X = Y := ⟨fun h => Nat.eq_of_mul_eq_mul_right hp h, fun h => by rw [h]⟩
  rw [hlt, heq]
  rcases cmpV_cases (X : Int) (Y : Int) with ⟨h, hv⟩ | ⟨h, hv⟩ | ⟨h, hv⟩ <;> rw [hv] <;> constructor <;> constructor <;> intro h' <;> omega
/-- Far from one another. -/
theorem exC_far_gt {N1 N2 b1 b2 : Nat} {t1 f1 t2 f2 : Int} (h1 : N1 < 2 ^ b1) (h1' : 2 ^ b1 ≤ 2 * N1) (h2 : N2 < 2 ^ b2) (h2' : 2 ^ b2 ≤ 2 * N2) (hf1 : -5000 ≤ f1 ∧ f1 ≤ 5000) (hf2 : -5000 ≤ f2 ∧ f2 ≤ 5000) (hT1 : -20000 ≤ t1 ∧ t1 ≤ 20000) (hT2 : -20000 ≤ t2 ∧ t2 ≤ 20000)
    (hfar : 6 < exS b1 t1 f1 - exS b2 t2 f2) : exC N1 t1 f1 N2 t2 f2 = 1 := by
  unfold exC
  exact cmpV_gt (by exact_mod_cast exS_far h1 h1' h2 h2' hf1 hf2 hT1 hT2 hfar)
theorem exC_far_lt {N1 N2 b1 b2 : Nat} {t1 f1 t2 f2 : Int} (h1 : N1 < 2 ^ b1) (h1' : 2 ^ b1 ≤ 2 * N1) (h2 : N2 < 2 ^ b2) (h2' : 2 ^ b2 ≤ 2 * N2) (hf1 : -5000 ≤ f1 ∧ f1 ≤ 5000) (hf2 : -5000 ≤ f2 ∧ f2 ≤ 5000) (hT1 : -20000 ≤ t1 ∧ t1 ≤ 20000) (hT2 : -20000 ≤ t2 ∧ t2 ≤ 20000)
    (hfar : exS b1 t1 f1 - exS b2 t2 f2 < -6) : exC N1 t1 f1 N2 t2 f2 = -1 := by
  unfold exC
  exact cmpV_lt (by exact_mod_cast exS_far h2 h2' h1 h1' hf2 hf1 hT2 hT1 (by omega))
/-- A magnitude's number with so many bits more, made odd. -/
def magV (id : Int) (more key : Nat) : Nat × Int := oddP 64 (numQ (fK id).toNat (fW id).toNat (fM id).toNat (fB id).toNat more key).1 (numQ (fK id).toNat (fW id).toNat (fM id).toNat (fB id).toNat more key).2
theorem oddP_odd (f m : Nat) (e : Int) (h : m % 2 = 1) : oddP f m e = (m, e) := by
  unfold oddP
  rw [if_neg (by omega)]
  have : tzN f m = 0 := by
    cases f with
    | zero => rfl
    | succ f => unfold tzN; rw [if_neg (by omega)]
  rw [this]; simp
theorem miM_zero (man : Nat) : miM man 0 = 0 := by unfold miM; simp
theorem miM_pos {man key : Nat} (h : 0 < key) : 0 < miM man key := by
  unfold miM
  split
  · rename_i h1
    have h2 := Nat.mod_add_div key (2 ^ man)
    rw [h1] at h2
    omega
  · have := Nat.two_pow_pos man
    omega
theorem miM_lt (man key : Nat) : miM man key < 2 ^ (man + 1) := by
  have h1 := Nat.mod_lt key (Nat.two_pow_pos man)
  unfold miM
  rw [Nat.pow_succ]
  split <;> omega
end Go.Cal
namespace Go.Cal
/-- The state behind a byte. -/
def nxt (st : Nat) (c : UInt8) : Nat :=
  if st < 2 ∧ (c = 45 ∨ c = 105 ∨ c = 110 ∨ c = 78 ∨ c = 46) then
    (if c = 45 then (if st = 0 then 1 else 99) else if c = 105 then 10 else if c = 110 then 20 else if c = 78 then 30 else 4)
  else if isDig c = true ∧ st ≤ 8 then
    (if st ≤ 2 then 2 else if st ≤ 5 then 5 else 8)
  else if st = 2 ∧ c = 46 then 3
  else if (st = 2 ∨ st = 3 ∨ st = 5) ∧ (c = 101 ∨ c = 69) then 6
  else if st = 6 ∧ (c = 43 ∨ c = 45) then 7
  else if (st = 10 ∧ c = 110) ∨ (st = 11 ∧ c = 102) ∨ (st = 20 ∧ c = 97) ∨ (st = 21 ∧ c = 110) ∨ (st = 30 ∧ c = 97) ∨ (st = 31 ∧ c = 82) then st + 1
  else 99
def over (st : Nat) : Bool := st == 2 || st == 3 || st == 5 || st == 8 || st == 12 || st == 22 || st == 32
/-- Is it a text, from a state on; and how many bytes go on. -/
def outA : Nat → List UInt8 → Bool × Nat
  | st, [] => (over st, 0)
  | st, c :: t => if nxt st c = 99 then (false, 0) else ((outA (nxt st c) t).1, (outA (nxt st c) t).2 + 1)
theorem outA_nil (st : Nat) : outA st [] = (over st, 0) := rfl
theorem outA_dead {st : Nat} {c : UInt8} (h : nxt st c = 99) (t : List UInt8) : outA st (c :: t) = (false, 0) := by rw [outA, if_pos h]
theorem outA_go {st st' : Nat} {c : UInt8} (h : nxt st c = st') (h' : st' ≠ 99) (t : List UInt8) : outA st (c :: t) = ((outA st' t).1, (outA st' t).2 + 1) := by
  subst h
  rw [outA, if_neg h']
/-- A run of digits that a state stays at. -/
theorem outA_run {st st' : Nat} (h0 : ∀ c, isDig c = true → nxt st c = st') (h1 : ∀ c, isDig c = true → nxt st' c = st') (h9 : st' ≠ 99) : ∀ (d t : List UInt8), (∀ c ∈ d, isDig c = true) → d ≠ [] → outA st (d ++ t) = ((outA st' t).1, (outA st' t).2 + d.length)
  | [], _, _, h => absurd rfl h
  | [c], t, hd, _ => by
    rw [List.singleton_append, outA_go (h0 c (hd c (by simp))) h9]; rfl
  | c :: c' :: d, t, hd, _ => by
    have ih := outA_run h1 h1 h9 (c' :: d) t (fun x hx => hd x (by simp [hx])) (by simp)
    rw [List.cons_append, outA_go (h0 c (hd c (by simp))) h9, ih]
    simp [Nat.add_assoc]
/-- Where a row of digits ends. -/
theorem span_split (t : List UInt8) : t.takeWhile isDig ++ t.dropWhile isDig = t := List.takeWhile_append_dropWhile
theorem take_digs (t : List UInt8) : ∀ c ∈ t.takeWhile isDig, isDig c = true := fun c hc => by
  induction t with
  | nil => simp at hc
  | cons x t ih =>
    by_cases h : isDig x = true
    · rw [List.takeWhile_cons_of_pos h] at hc
      rcases List.mem_cons.1 hc with rfl | hc
      · exact h
      · exact ih hc
    · rw [List.takeWhile_cons_of_neg h] at hc
      simp at hc
theorem drop_head (t : List UInt8) {c : UInt8} {r : List UInt8} (h : t.dropWhile isDig = c :: r) : isDig c = false := by
  induction t with
  | nil => simp at h
  | cons x t ih =>
    by_cases hx : isDig x = true
    · rw [List.dropWhile_cons_of_pos hx] at h; exact ih h
    · rw [List.dropWhile_cons_of_neg hx] at h
      injection h with h1 h2
      subst h1
      simpa using hx
/-- Behind an e, and its sign: the digits; how far it goes on. -/
def expN (t : List UInt8) : Bool × Nat := (!(t.takeWhile isDig).isEmpty && (t.dropWhile isDig).isEmpty, (t.takeWhile isDig).length)
/-- Behind an e. -/
def expE (t : List UInt8) : Bool × Nat :=
  match t with
  | [] => (false, 0)
  | c :: r => if c = 43 ∨ c = 45 then ((expN r).1, (expN r).2 + 1) else expN t
theorem expE_cons (c : UInt8) (r : List UInt8) : expE (c :: r) = if c = 43 ∨ c = 45 then ((expN r).1, (expN r).2 + 1) else expN (c :: r) := rfl
/-- Behind the digits. -/
def expS (t : List UInt8) : Bool × Nat :=
  match t with
  | [] => (true, 0)
  | c :: r => if c = 101 ∨ c = 69 then ((expE r).1, (expE r).2 + 1) else (false, 0)
theorem expS_cons (c : UInt8) (r : List UInt8) : expS (c :: r) = if c = 101 ∨ c = 69 then ((expE r).1, (expE r).2 + 1) else (false, 0) := rfl
/-- A number without a sign: is it one; how far it goes on. -/
def numS (t : List UInt8) : Bool × Nat :=
  match t.dropWhile isDig with
  | 46 :: r =>
    if (t.takeWhile isDig).isEmpty && (r.takeWhile isDig).isEmpty then (false, 1)
    else ((expS (r.dropWhile isDig)).1, (t.takeWhile isDig).length + 1 + (r.takeWhile isDig).length + (expS (r.dropWhile isDig)).2)
  | r => if (t.takeWhile isDig).isEmpty then (false, 0) else ((expS r).1, (t.takeWhile isDig).length + (expS r).2)
theorem nxt_dig2 {c : UInt8} (h : isDig c = true) : nxt 2 c = 2 := by simp [nxt, h]
theorem nxt_dig5 {c : UInt8} (h : isDig c = true) : nxt 5 c = 5 := by simp [nxt, h]
theorem nxt_dig8 {c : UInt8} (h : isDig c = true) : nxt 8 c = 8 := by simp [nxt, h]
theorem nxt_dig34 {c : UInt8} (h : isDig c = true) : nxt 3 c = 5 ∧ nxt 4 c = 5 := by simp [nxt, h]
theorem nxt_dig67 {c : UInt8} (h : isDig c = true) : nxt 6 c = 8 ∧ nxt 7 c = 8 := by simp [nxt, h]
theorem not_dig {c : UInt8} (h : isDig c = true) : c ≠ 45 ∧ c ≠ 105 ∧ c ≠ 110 ∧ c ≠ 78 ∧ c ≠ 46 ∧ c ≠ 101 ∧ c ≠ 69 ∧ c ≠ 43 ∧ c ≠ 97 ∧ c ≠ 102 ∧ c ≠ 82 := by
  refine ⟨?_, ?_, ?_, ?_, ?_, ?_, ?_, ?_, ?_, ?_, ?_⟩ <;> (rintro rfl; exact absurd h (by decide))
theorem nxt_dig01 {c : UInt8} (h : isDig c = true) : nxt 0 c = 2 ∧ nxt 1 c = 2 := by
  obtain ⟨h1, h2, h3, h4, h5, _⟩ := not_dig h
  simp [nxt, h, h1, h2, h3, h4, h5]
theorem outA_8 (t : List UInt8) : outA 8 t = ((t.dropWhile isDig).isEmpty, (t.takeWhile isDig).length) := by
  have key : ∀ r, (∀ c s, r = c :: s → isDig c = false) → outA 8 r = (r.isEmpty, 0) := fun r h => by
    match r with
    | [] => rfl
    | c :: s =>
      have := h c s rfl
      rw [outA_dead (by simp [nxt, this])]; rfl
  have hk := key (t.dropWhile isDig) (fun c s h => drop_head t h)
  conv => lhs; rw [← span_split t]
  by_cases h0 : t.takeWhile isDig = []
  · rw [h0, List.nil_append, hk]; rfl
  · rw [outA_run (fun c h => nxt_dig8 h) (fun c h => nxt_dig8 h) (by decide) _ _ (take_digs t) h0, hk]; simp
theorem outA_67 (st : Nat) (hst : st = 6 ∨ st = 7) (t : List UInt8) (hs : ∀ c r, t = c :: r → st = 6 → c ≠ 43 ∧ c ≠ 45) : outA st t = expN t := by
  have hd : ∀ c, isDig c = true → nxt st c = 8 := fun c h => by rcases hst with rfl | rfl <;> simp [nxt, h]
  have hn : over st = false := by rcases hst with rfl | rfl <;> rfl
  unfold expN
  by_cases h0 : t.takeWhile isDig = []
  · match t, h0 with
    | [], _ => rw [outA_nil, hn]; rfl
    | c :: r, h0 =>
      have hc : isDig c = false := by
        by_cases h : isDig c = true
        · rw [List.takeWhile_cons_of_pos h] at h0; cases h0
        · simpa using h
      have hs' := hs c r rfl
      rw [outA_dead (by rcases hst with rfl | rfl <;> simp [nxt, hc]; exact hs' rfl), h0]; rfl
  · have h8 := outA_8 (t.dropWhile isDig)
    have hdd : (t.dropWhile isDig).dropWhile isDig = t.dropWhile isDig ∧ (t.dropWhile isDig).takeWhile isDig = [] := by
      match hh : t.dropWhile isDig with
      | [] => exact ⟨rfl, rfl⟩
      | c :: s =>
        have := drop_head t hh
        exact ⟨List.dropWhile_cons_of_neg (by simp [this]), List.takeWhile_cons_of_neg (by simp [this])⟩
    rw [hdd.1, hdd.2] at h8
    conv => lhs; rw [← span_split t]
    rw [outA_run hd (fun c h => nxt_dig8 h) (by decide) _ _ (take_digs t) h0, h8]
    have : (t.takeWhile isDig).isEmpty = false := by simpa using h0
    simp [this]
theorem outA_6 (t : List UInt8) : outA 6 t = expE t := by
  match t with
  | [] => rfl
  | c :: r =>
    rw [expE_cons]
    by_cases h : c = 43 ∨ c = 45
    · rw [if_pos h]
      have hd : isDig c = false := by rcases h with rfl | rfl <;> decide
      rw [outA_go (st' := 7) (by rcases h with rfl | rfl <;> decide) (by decide), outA_67 7 (.inr rfl) r (fun _ _ _ e => absurd e (by decide))]
    · rw [if_neg h]
      exact outA_67 6 (.inl rfl) _ (fun c' r' e _ => by injection e with e1 e2; subst e1; exact ⟨fun e => h (.inl e), fun e => h (.inr e)⟩)
theorem outA_e (st : Nat) (hst : st = 2 ∨ st = 3 ∨ st = 5) (t : List UInt8) (hd : ∀ c r, t = c :: r → isDig c = false ∧ (st = 2 → c ≠ 46)) : outA st t = expS t := by
  match t with
  | [] => rcases hst with rfl | rfl | rfl <;> rfl
  | c :: r =>
    obtain ⟨h1, h2⟩ := hd c r rfl
    rw [expS_cons]
    by_cases h : c = 101 ∨ c = 69
    · rw [if_pos h, outA_go (st' := 6) (by rcases hst with rfl | rfl | rfl <;> rcases h with rfl | rfl <;> decide) (by decide), outA_6]
    · rw [if_neg h]
      rw [outA_dead]
      rcases hst with rfl | rfl | rfl
      · simp [nxt, h1, h2 rfl, h]
      · simp [nxt, h1, h]
      · simp [nxt, h1, h]
theorem outA_345 (st : Nat) (hst : st = 3 ∨ st = 4) (r : List UInt8) (h : st = 4 → r.takeWhile isDig ≠ []) : outA st r = ((expS (r.dropWhile isDig)).1, (r.takeWhile isDig).length + (expS (r.dropWhile isDig)).2) := by
  have hd : ∀ c, isDig c = true → nxt st c = 5 := fun c hc => by rcases hst with rfl | rfl <;> simp [nxt, hc]
  have hh : ∀ c s, r.dropWhile isDig = c :: s → isDig c = false := fun c s e => drop_head r e
  by_cases h0 : r.takeWhile isDig = []
  · rcases hst with rfl | rfl
    · have e : r.dropWhile isDig = r := by
        have := span_split r
        rwa [h0, List.nil_append] at this
      rw [h0, e, outA_e 3 (by simp) r (fun c s hcs => ⟨hh c s (by rw [e]; exact hcs), fun e => absurd e (by decide)⟩)]
      simp
    · exact absurd h0 (h rfl)
  · have h5 := outA_e 5 (by simp) (r.dropWhile isDig) (fun c s e => ⟨hh c s e, fun e => absurd e (by decide)⟩)
    conv => lhs; rw [← span_split r]
    rw [outA_run hd (fun c h => nxt_dig5 h) (by decide) _ _ (take_digs r) h0, h5, Nat.add_comm]
/-- A number, by states. -/
theorem outA_num (st : Nat) (hst : st = 0 ∨ st = 1) (t : List UInt8) (hd : ∀ c r, t = c :: r → c ≠ 105 ∧ c ≠ 110 ∧ c ≠ 78 ∧ c ≠ 45) : outA st t = numS t := by
  have hn : over st = false := by rcases hst with rfl | rfl <;> rfl
  have h2 : ∀ c, isDig c = true → nxt st c = 2 := fun c h => by rcases hst with rfl | rfl; exact (nxt_dig01 h).1; exact (nxt_dig01 h).2
  have hsp := span_split t
  have hdh : ∀ c s, t.dropWhile isDig = c :: s → isDig c = false := fun c s e => drop_head t e
  unfold numS
  by_cases h0 : t.takeWhile isDig = []
  · have e : t.dropWhile isDig = t := by rwa [h0, List.nil_append] at hsp
    rw [e]
    match t, hd, hdh, h0, e with
    | [], _, _, _, _ => rw [outA_nil, hn]; rfl
    | c :: r, hd, hdh, h0, e =>
      have hc := hdh c r e
      obtain ⟨d1, d2, d3, d4⟩ := hd c r rfl
      by_cases hp : c = 46
      · subst hp
        simp only [h0, List.isEmpty_nil, Bool.true_and, List.length_nil, Nat.zero_add]
        rw [outA_go (st := st) (st' := 4) (by rcases hst with rfl | rfl <;> decide) (by decide)]
        by_cases h1 : r.takeWhile isDig = []
        · rw [if_pos (by simp [h1])]
          match r, h1 with
          | [], _ => rfl
          | x :: s, h1 =>
            have hx : isDig x = false := by
              by_cases h : isDig x = true
              · rw [List.takeWhile_cons_of_pos h] at h1; cases h1
              · simpa using h
            rw [outA_dead (by simp [nxt, hx])]
        · rw [if_neg (by simpa using h1), outA_345 4 (.inr rfl) r (fun _ => h1)]
          exact Prod.ext rfl (by show _ + _ + 1 = 1 + _ + _; omega)
      · have : outA st (c :: r) = (false, 0) := outA_dead (by rcases hst with rfl | rfl <;> simp [nxt, hc, hp, d1, d2, d3, d4]) r
        rw [this]
        split
        · rename_i r' heq
          injection heq with e1 e2
          exact absurd e1 hp
        · simp [h0]
  · have hne : (t.takeWhile isDig).isEmpty = false := by simpa using h0
    conv => lhs; rw [← hsp]
    rw [outA_run h2 (fun c h => nxt_dig2 h) (by decide) _ _ (take_digs t) h0]
    match hr : t.dropWhile isDig with
    | [] => simp [hne, expS, outA, over]
    | c :: r =>
      have hc := hdh c r hr
      by_cases hp : c = 46
      · subst hp
        rw [outA_go (st := 2) (st' := 3) (by decide) (by decide), outA_345 3 (.inl rfl) r (fun e => absurd e (by decide))]
        simp only [hne, Bool.false_and]
        exact Prod.ext rfl (by show _ + _ + 1 + _ = _ + 1 + _ + _; omega)
      · rw [outA_e 2 (by simp) (c :: r) (fun c' r' e => by injection e with e1 e2; subst e1; exact ⟨hc, fun _ => hp⟩)]
        split
        · rename_i r' heq
          injection heq with e1 e2
          exact absurd e1 hp
        · simp [hne, Nat.add_comm]
end Go.Cal
namespace Go.Cal
/-- How far two rows go together. -/
def lcp : List UInt8 → List UInt8 → Nat
  | x :: xs, y :: ys => if x = y then lcp xs ys + 1 else 0
  | _, _ => 0
theorem lcp_le_left : ∀ (t w : List UInt8), lcp t w ≤ t.length
  | [], _ => by simp [lcp]
  | _ :: _, [] => by simp [lcp]
  | x :: xs, y :: ys => by
    unfold lcp
    split
    · have := lcp_le_left xs ys
      simp; omega
    · simp
theorem lcp_le_right : ∀ (t w : List UInt8), lcp t w ≤ w.length
  | [], _ => by simp [lcp]
  | _ :: _, [] => by simp [lcp]
  | x :: xs, y :: ys => by
    unfold lcp
    split
    · have := lcp_le_right xs ys
      simp; omega
    · simp
theorem lcp_nil (t : List UInt8) : lcp t [] = 0 := by cases t <;> rfl
theorem lcp_same : ∀ (t w : List UInt8) (n : Nat), n < lcp t w → t.getD n 0 = w.getD n 0
  | [], _, n, h => by simp [lcp] at h
  | _ :: _, [], n, h => by simp [lcp] at h
  | x :: xs, y :: ys, n, h => by
    unfold lcp at h
    split at h
    · rename_i e
      subst e
      match n with
      | 0 => rfl
      | n + 1 =>
        have := lcp_same xs ys n (by omega)
        simpa using this
    · omega
theorem lcp_stop : ∀ (t w : List UInt8), lcp t w < w.length → lcp t w < t.length → t.getD (lcp t w) 0 ≠ w.getD (lcp t w) 0
  | [], _, _, h => by simp at h
  | _ :: _, [], h, _ => by simp at h
  | x :: xs, y :: ys, h1, h2 => by
    unfold lcp at h1 h2 ⊢
    split
    · rename_i e
      rw [if_pos e] at h1 h2
      have := lcp_stop xs ys (by simpa using h1) (by simpa using h2)
      simpa using this
    · rename_i e
      simpa using e
theorem lcp_all : ∀ (t w : List UInt8), lcp t w = w.length → t.length = w.length → t = w
  | [], [], _, _ => rfl
  | [], _ :: _, _, h => by simp at h
  | _ :: _, [], _, h => by simp at h
  | x :: xs, y :: ys, h1, h2 => by
    unfold lcp at h1
    split at h1
    · rename_i e
      subst e
      rw [lcp_all xs ys (by simpa using h1) (by simpa using h2)]
    · simp at h1
theorem lcp_self : ∀ (w : List UInt8), lcp w w = w.length
  | [] => rfl
  | x :: xs => by simp [lcp, lcp_self xs]
/-- The five words of the program's row. -/
def wINF : List UInt8 := [105, 110, 102]
def wNAN : List UInt8 := [110, 97, 110]
def wNAR : List UInt8 := [78, 97, 82]
/-- Which word a text is: 2, 3, 4; 0: none. -/
def wordK (t : List UInt8) : Nat := if t = wINF then 2 else if t = wNAN then 3 else if t = wNAR then 4 else 0
/-- How far it goes on as one. -/
def wordN (t : List UInt8) : Nat := max (lcp t wINF) (max (lcp t wNAN) (lcp t wNAR))
/-- A text behind its sign: is it one; how far it goes on. -/
def bodyS (t : List UInt8) : Bool × Nat := if wordK t ≠ 0 then (true, 3) else ((numS t).1, max (wordN t) (numS t).2)
theorem nxt_99 {st : Nat} {c : UInt8} (h9 : 9 ≤ st) (h : ¬ ((st = 10 ∧ c = 110) ∨ (st = 11 ∧ c = 102) ∨ (st = 20 ∧ c = 97) ∨ (st = 21 ∧ c = 110) ∨ (st = 30 ∧ c = 97) ∨ (st = 31 ∧ c = 82))) : nxt st c = 99 := by
  unfold nxt
  rw [if_neg (by omega), if_neg (by omega), if_neg (by omega), if_neg (by omega), if_neg (by omega), if_neg h]
/-- A word, by states: b1 b2 b3 are its bytes, q the state behind the first one. -/
theorem outA_three {st q : Nat} {b1 b2 b3 : UInt8} (h1 : nxt st b1 = q) (h2 : nxt q b2 = q + 1) (h3 : nxt (q + 1) b3 = q + 2) (hq : q = 10 ∨ q = 20 ∨ q = 30) (n2 : ∀ c, c ≠ b2 → nxt q c = 99) (n3 : ∀ c, c ≠ b3 → nxt (q + 1) c = 99) (r : List UInt8) :
    outA st (b1 :: r) = (decide (b1 :: r = [b1, b2, b3]), lcp (b1 :: r) [b1, b2, b3]) := by
  have ho : over q = false ∧ over (q + 1) = false ∧ over (q + 2) = true := by rcases hq with rfl | rfl | rfl <;> exact ⟨rfl, rfl, rfl⟩
  have n4 : ∀ c, nxt (q + 2) c = 99 := fun c => nxt_99 (by omega) (by omega)
  rw [outA_go h1 (by omega)]
  match r with
  | [] => rw [outA_nil, ho.1]; simp [lcp]
  | c2 :: r =>
    by_cases e2 : c2 = b2
    · subst e2
      rw [outA_go h2 (by omega)]
      match r with
      | [] => rw [outA_nil, ho.2.1]; simp [lcp]
      | c3 :: r =>
        by_cases e3 : c3 = b3
        · subst e3
          rw [outA_go h3 (by omega)]
          match r with
          | [] => rw [outA_nil, ho.2.2]; simp [lcp]
          | c4 :: r => rw [outA_dead (n4 c4)]; simp [lcp]
        · rw [outA_dead (n3 c3 e3)]; simp [lcp, e3]
    · rw [outA_dead (n2 c2 e2)]; simp [lcp, e2]
theorem numS_other {c : UInt8} {r : List UInt8} (hd : isDig c = false) (hp : c ≠ 46) : numS (c :: r) = (false, 0) := by
  have h1 : (c :: r).takeWhile isDig = [] := List.takeWhile_cons_of_neg (by simp [hd])
  have h2 : (c :: r).dropWhile isDig = c :: r := List.dropWhile_cons_of_neg (by simp [hd])
  unfold numS
  rw [h2]
  split
  · rename_i r' heq
    injection heq with e1 e2
    exact absurd e1 hp
  · simp [h1]
theorem lcp_head {c : UInt8} {r : List UInt8} {d : UInt8} {s : List UInt8} (h : c ≠ d) : lcp (c :: r) (d :: s) = 0 := by simp [lcp, h]
/-- A text behind its sign, by states and by parts. -/
theorem outA_body (st : Nat) (hst : st = 0 ∨ st = 1) (t : List UInt8) (hs : ∀ c r, t = c :: r → c = 45 → st = 1) : (outA st t).1 = (bodyS t).1 ∧ ((outA st t).1 = false → (outA st t).2 = (bodyS t).2) := by
  have word : ∀ (b1 b2 b3 : UInt8) (q : Nat) (r : List UInt8), nxt st b1 = q → nxt q b2 = q + 1 → nxt (q + 1) b3 = q + 2 → (q = 10 ∨ q = 20 ∨ q = 30) → (∀ c, c ≠ b2 → nxt q c = 99) → (∀ c, c ≠ b3 → nxt (q + 1) c = 99) → isDig b1 = false → b1 ≠ 46 →
      (wordK (b1 :: r) ≠ 0 ↔ b1 :: r = [b1, b2, b3]) → wordN (b1 :: r) = lcp (b1 :: r) [b1, b2, b3] → (outA st (b1 :: r)).1 = (bodyS (b1 :: r)).1 ∧ ((outA st (b1 :: r)).1 = false → (outA st (b1 :: r)).2 = (bodyS (b1 :: r)).2) := by
    intro b1 b2 b3 q r h1 h2 h3 hq n2 n3 hd hp hk hn
    rw [outA_three h1 h2 h3 hq n2 n3 r]
    unfold bodyS
    by_cases h : b1 :: r = [b1, b2, b3]
    · rw [if_pos (hk.2 h)]
      simp [h]
    · rw [if_neg (fun e => h (hk.1 e)), numS_other hd hp, hn]
      simp [h]
  match t with
  | [] =>
    rcases hst with rfl | rfl <;> exact ⟨rfl, fun _ => rfl⟩
  | c :: r =>
    by_cases e1 : c = 105
    · subst e1
      refine word 105 110 102 10 r (by rcases hst with rfl | rfl <;> decide) (by decide) (by decide) (by simp) (fun c h => nxt_99 (by decide) (by simp [h])) (fun c h => nxt_99 (by decide) (by simp [h])) (by decide) (by decide) ?_ ?_
      · unfold wordK
        by_cases h : (105 : UInt8) :: r = wINF
        · rw [if_pos h]; exact ⟨fun _ => h, fun _ => by decide⟩
        · rw [if_neg h, if_neg (by unfold wNAN; simp), if_neg (by unfold wNAR; simp)]
          exact ⟨fun e => absurd rfl e, fun e => absurd e h⟩
      · unfold wordN wNAN wNAR wINF
        rw [lcp_head (d := 110) (by decide), lcp_head (d := 78) (by decide)]
        simp
    · by_cases e2 : c = 110
      · subst e2
        refine word 110 97 110 20 r (by rcases hst with rfl | rfl <;> decide) (by decide) (by decide) (by simp) (fun c h => nxt_99 (by decide) (by simp [h])) (fun c h => nxt_99 (by decide) (by simp [h])) (by decide) (by decide) ?_ ?_
        · unfold wordK
          rw [if_neg (by unfold wINF; simp)]
          by_cases h : (110 : UInt8) :: r = wNAN
          · rw [if_pos h]; exact ⟨fun _ => h, fun _ => by decide⟩
          · rw [if_neg h, if_neg (by unfold wNAR; simp)]
            exact ⟨fun e => absurd rfl e, fun e => absurd e h⟩
        · unfold wordN wNAN wNAR wINF
          rw [lcp_head (d := 105) (by decide), lcp_head (d := 78) (by decide)]
          simp
      · by_cases e3 : c = 78
        · subst e3
          refine word 78 97 82 30 r (by rcases hst with rfl | rfl <;> decide) (by decide) (by decide) (by simp) (fun c h => nxt_99 (by decide) (by simp [h])) (fun c h => nxt_99 (by decide) (by simp [h])) (by decide) (by decide) ?_ ?_
          · unfold wordK
            rw [if_neg (by unfold wINF; simp), if_neg (by unfold wNAN; simp)]
            by_cases h : (78 : UInt8) :: r = wNAR
            · rw [if_pos h]; exact ⟨fun _ => h, fun _ => by decide⟩
            · rw [if_neg h]
              exact ⟨fun e => absurd rfl e, fun e => absurd e h⟩
          · unfold wordN wNAN wNAR wINF
            rw [lcp_head (d := 105) (by decide), lcp_head (d := 110) (by decide)]
            simp
        · have hk : wordK (c :: r) = 0 := by
            unfold wordK
            rw [if_neg (by unfold wINF; simp [e1]), if_neg (by unfold wNAN; simp [e2]), if_neg (by unfold wNAR; simp [e3])]
          have hn : wordN (c :: r) = 0 := by
            unfold wordN wNAN wNAR wINF
            rw [lcp_head e1, lcp_head e2, lcp_head e3]; rfl
          have hb : bodyS (c :: r) = ((numS (c :: r)).1, (numS (c :: r)).2) := by
            unfold bodyS
            rw [if_neg (by simp [hk]), hn, Nat.zero_max]
          rw [hb]
          by_cases e4 : c = 45
          · subst e4
            obtain rfl := hs 45 r rfl rfl
            rw [outA_dead (by decide), numS_other (by decide) (by decide)]
            exact ⟨rfl, fun _ => rfl⟩
          · rw [outA_num st hst (c :: r) (fun c' r' e => by injection e with q1 q2; subst q1; exact ⟨e1, e2, e3, e4⟩)]
            exact ⟨rfl, fun _ => rfl⟩
/-- A whole text: is it one; where it goes wrong. -/
def textS (l : List UInt8) : Bool × Nat :=
  match l with
  | 45 :: t => ((bodyS t).1, (bodyS t).2 + 1)
  | t => bodyS t
theorem outA_text (l : List UInt8) : (outA 0 l).1 = (textS l).1 ∧ ((outA 0 l).1 = false → (outA 0 l).2 = (textS l).2) := by
  unfold textS
  split
  · rename_i t
    obtain ⟨h1, h2⟩ := outA_body 1 (.inr rfl) t (fun _ _ _ _ => rfl)
    rw [outA_go (st := 0) (st' := 1) (by decide) (by decide)]
    exact ⟨h1, fun e => by show _ + 1 = _ + 1; rw [h2 e]⟩
  · rename_i hne
    exact outA_body 0 (.inl rfl) l (fun c r e e2 => by subst e2; exact absurd e (hne r))
end Go.Cal
