/- Plain: what the code reckons of a posit's fields, of odd numbers, and of the order of numbers. Conditions: none. -/
/- Plain: the pattern of a number, and its laws. Conditions: none. -/
import Derived.Test.YtobokaafmcfeaaaGreatDoorSk01
import Derived.Lib.TrailingZeros
namespace Go.Cal
theorem tzN_ctz : ∀ f m, Lib.ctzFrom f m = tzN f m
  | 0, _ => rfl
  | f + 1, m => by
    unfold Lib.ctzFrom tzN
    by_cases h : m % 2 = 1
    · rw [if_pos h, if_neg (by omega)]
    · rw [if_neg h, if_pos (by omega), tzN_ctz f (m / 2), Nat.add_comm]
theorem ctz_tz {m : Nat} (h : 0 < m) : Lib.ctz 64 m = tzN 64 m := by
  unfold Lib.ctz
  rw [if_neg (by omega), tzN_ctz]
theorem tzN_lt : ∀ (f m : Nat), 0 < m → m < 2 ^ f → tzN f m < f
  | 0, m, h0, h => by simp at h; omega
  | f + 1, m, h0, h => by
    unfold tzN
    split
    · have := tzN_lt f (m / 2) (by omega) (by rw [Nat.pow_succ] at h; omega)
      omega
    · omega
/-- The run of a key, as the code finds it: low keys, high ones. -/
theorem split_low {n key : Nat} (h0 : 0 < key) (h : key < 2 ^ (n - 1)) (hn : 2 ≤ n) : 0 < n - bl key ∧ poR n key = -((n - bl key : Nat) : Int) ∧ poL n key = n - (n - bl key) - 1 ∧ n - bl key ≤ n := by
  have h1 := bl_pos h0
  have h2 : bl key ≤ n - 1 := bl_iff.2 h
  unfold poR poL
  rw [if_pos h, if_pos h]
  omega
theorem split_high {n key : Nat} (h : key < 2 ^ n) (hg : 2 ^ (n - 1) ≤ key) (hn : 2 ≤ n) : n - bl key = 0 ∧ 0 < n - bl (2 ^ n - 1 - key) ∧ poR n key = ((n - bl (2 ^ n - 1 - key) : Nat) : Int) - 1 ∧ poL n key = n - (n - bl (2 ^ n - 1 - key)) - 1 ∧ n - bl (2 ^ n - 1 - key) ≤ n := by
  have h1 : n - 1 < bl key := by
    rcases Nat.lt_or_ge (n - 1) (bl key) with h2 | h2
    · exact h2
    · have := bl_iff.1 h2
      omega
  have h3 : bl (2 ^ n - 1 - key) ≤ n - 1 := by
    refine bl_iff.2 ?_
    have : 2 ^ n = 2 * 2 ^ (n - 1) := by rw [← Nat.pow_succ', Nat.succ_eq_add_one, show n - 1 + 1 = n by omega]
    omega
  unfold poR poL
  rw [if_neg (by omega), if_neg (by omega)]
  omega
/-- The same, otherwise reckoned. -/
theorem exP_cross (N : Nat) (t f t' f' : Int) : exP N t f * exQ t' f' = exP N (t - t') (f - f') * (5 ^ (f.toNat + (-f').toNat - (f - f').toNat) * 2 ^ (t.toNat + (-t').toNat - (t - t').toNat)) := by
  unfold exP exQ
  have h1 : f.toNat + (-f').toNat = (f - f').toNat + (f.toNat + (-f').toNat - (f - f').toNat) := by omega
  have h2 : t.toNat + (-t').toNat = (t - t').toNat + (t.toNat + (-t').toNat - (t - t').toNat) := by omega
  have e1 : 5 ^ f.toNat * 5 ^ (-f').toNat = 5 ^ (f - f').toNat * 5 ^ (f.toNat + (-f').toNat - (f - f').toNat) := by rw [← Nat.pow_add, ← Nat.pow_add, ← h1]
  have e2 : 2 ^ t.toNat * 2 ^ (-t').toNat = 2 ^ (t - t').toNat * 2 ^ (t.toNat + (-t').toNat - (t - t').toNat) := by rw [← Nat.pow_add, ← Nat.pow_add, ← h2]
  calc N * 5 ^ f.toNat * 2 ^ t.toNat * (5 ^ (-f').toNat * 2 ^ (-t').toNat) = N * (5 ^ f.toNat * 5 ^ (-f').toNat) * (2 ^ t.toNat * 2 ^ (-t').toNat) := by ac_rfl
    _ = _ := by rw [e1, e2]; ac_rfl
theorem cmpV_scale {x y c : Nat} (h : 0 < c) : cmpV ((x * c : Nat) : Int) ((y * c : Nat) : Int) = cmpV (x : Int) (y : Int) := by
  rcases Nat.lt_trichotomy x y with h1 | h1 | h1
  · rw [cmpV_lt (by exact_mod_cast Nat.mul_lt_mul_of_pos_right h1 h), cmpV_lt (by exact_mod_cast h1)]
  · rw [h1, cmpV_eq rfl, cmpV_eq rfl]
  · rw [cmpV_gt (by exact_mod_cast Nat.mul_lt_mul_of_pos_right h1 h), cmpV_gt (by exact_mod_cast h1)]
/-- The order of two numbers: by cross products. -/
def exC (N1 : Nat) (t1 f1 : Int) (N2 : Nat) (t2 f2 : Int) : Int := cmpV ((exP N1 t1 f1 * exQ t2 f2 : Nat) : Int) ((exP N2 t2 f2 * exQ t1 f1 : Nat) : Int)
theorem exC_scaled (N1 : Nat) (t1 f1 : Int) (N2 : Nat) (t2 f2 : Int) : cmpV ((exP N1 (t1 - t2) (f1 - f2) : Nat) : Int) ((exP N2 (t2 - t1) (f2 - f1) : Nat) : Int) = exC N1 t1 f1 N2 t2 f2 := by
  unfold exC
  rw [exP_cross, exP_cross N2, show f2.toNat + (-f1).toNat - (f2 - f1).toNat = f1.toNat + (-f2).toNat - (f1 - f2).toNat by omega, show t2.toNat + (-t1).toNat - (t2 - t1).toNat = t1.toNat + (-t2).toNat - (t1 - t2).toNat by omega]
  exact (cmpV_scale (Nat.mul_pos (Nat.pow_pos (by decide)) (Nat.two_pow_pos _))).symm
theorem exP_zero (t f : Int) : exP 0 t f = 0 := by unfold exP; simp
theorem exP_pos {N : Nat} (t f : Int) (h : 0 < N) : 0 < exP N t f := Nat.mul_pos (Nat.mul_pos h (Nat.pow_pos (by decide))) (Nat.two_pow_pos _)
theorem exC_zero_l {N2 : Nat} {t1 f1 t2 f2 : Int} : exC 0 t1 f1 N2 t2 f2 = cmpV 0 (N2 : Int) := by
  unfold exC
  rw [exP_zero, Nat.zero_mul]
  rcases Nat.eq_zero_or_pos N2 with h | h
  · subst h; rw [exP_zero, Nat.zero_mul]; rfl
  · have h2 := Nat.mul_pos (exP_pos t2 f2 h) (exQ_pos t1 f1)
    rw [cmpV_lt (a := 0) (b := (N2 : Int)) (by omega), cmpV_lt (by omega)]
theorem exC_zero_r {N1 : Nat} {t1 f1 t2 f2 : Int} : exC N1 t1 f1 0 t2 f2 = cmpV (N1 : Int) 0 := by
  unfold exC
  rw [exP_zero, Nat.zero_mul]
  rcases Nat.eq_zero_or_pos N1 with h | h
  · subst h; rw [exP_zero, Nat.zero_mul]; rfl
  · have h2 := Nat.mul_pos (exP_pos t1 f1 h) (exQ_pos t2 f2)
    rw [cmpV_gt (a := (N1 : Int)) (b := 0) (by omega), cmpV_gt (by omega)]
/-- A size against a boundary: is it to be rounded down? -/
theorem exC_wi {kd wd mn bs key N m : Nat} {t f e : Int} (he : 0 ≤ (2000 : Int) + e) (hm : m * 2 ^ ((2000 : Int) + e).toNat = uN kd wd mn bs (2 * key + 1)) :
    ((exC N t f m e 0 < 0) ↔ exP N t f * sc2 < uN kd wd mn bs (2 * key + 1) * exQ t f) ∧ ((exC N t f m e 0 = 0) ↔ exP N t f * sc2 = uN kd wd mn bs (2 * key + 1) * exQ t f) := by
  have e1 : exP m e 0 = m * 2 ^ e.toNat := by unfold exP; simp
  have e2 : exQ e 0 = 2 ^ (-e).toNat := by unfold exQ; simp
  have h0 : 2000 = (-e).toNat + (2000 - (-e).toNat) := by omega
  have h1 : ((2000 : Int) + e).toNat = e.toNat + (2000 - (-e).toNat) := by omega
  generalize hc : 2000 - (-e).toNat = c at h0 h1
  have hs : sc2 = 2 ^ (-e).toNat * 2 ^ c := by unfold sc2; rw [← Nat.pow_add, ← h0]
  rw [← hm, h1, hs, Nat.pow_add]
  unfold exC
  rw [e1, e2]
  have l1 : exP N t f * (2 ^ (-e).toNat * 2 ^ c) = exP N t f * 2 ^ (-e).toNat * 2 ^ c := by ac_rfl
  have l2 : m * (2 ^ e.toNat * 2 ^ c) * exQ t f = m * 2 ^ e.toNat * exQ t f * 2 ^ c := by ac_rfl
  rw [l1, l2]
  have hp := Nat.two_pow_pos c
  generalize exP N t f * 2 ^ (-e).toNat = X
  generalize m * 2 ^ e.toNat * exQ t f = Y
  generalize 2 ^ c = C at hp
  have hlt : X * C < Y * C ↔ X < Y := ⟨fun h => Nat.lt_of_mul_lt_mul_right h, fun h => Nat.mul_lt_mul_of_pos_right h hp⟩
  have heq : X * C = Y * C ↔ X = Y := ⟨fun h => Nat.eq_of_mul_eq_mul_right hp h, fun h => by rw [h]⟩
  rw [hlt, heq]
  rcases cmpV_cases (X : Int) (Y : Int) with ⟨h, hv⟩ | ⟨h, hv⟩ | ⟨h, hv⟩ <;> rw [hv] <;> constructor <;> constructor <;> intro h' <;> omega
/-- Far from one another. -/
theorem exC_far_gt {N1 N2 b1 b2 : Nat} {t1 f1 t2 f2 : Int} (h1 : N1 < 2 ^ b1) (h1' : 2 ^ b1 ≤ 2 * N1) (h2 : N2 < 2 ^ b2) (h2' : 2 ^ b2 ≤ 2 * N2) (hf1 : -5000 ≤ f1 ∧ f1 ≤ 5000) (hf2 : -5000 ≤ f2 ∧ f2 ≤ 5000) (hT1 : -20000 ≤ t1 ∧ t1 ≤ 20000) (hT2 : -20000 ≤ t2 ∧ t2 ≤ 20000)
    (hfar : 6 < exS b1 t1 f1 - exS b2 t2 f2) : exC N1 t1 f1 N2 t2 f2 = 1 := by
  unfold exC
  exact cmpV_gt (by exact_mod_cast exS_far h1 h1' h2 h2' hf1 hf2 hT1 hT2 hfar)
theorem exC_far_lt {N1 N2 b1 b2 : Nat} {t1 f1 t2 f2 : Int} (h1 : N1 < 2 ^ b1) (h1' : 2 ^ b1 ≤ 2 * N1) (h2 : N2 < 2 ^ b2) (h2' : 2 ^ b2 ≤ 2 * N2) (hf1 : -5000 ≤ f1 ∧ f1 ≤ 5000) (hf2 : -5000 ≤ f2 ∧ f2 ≤ 5000) (hT1 : -20000 ≤ t1 ∧ t1 ≤ 20000) (hT2 : -20000 ≤ t2 ∧ t2 ≤ 20000)
    (hfar : exS b1 t1 f1 - exS b2 t2 f2 < -6) : exC N1 t1 f1 N2 t2 f2 = -1 := by
  unfold exC
  exact cmpV_lt (by exact_mod_cast exS_far h2 h2' h1 h1' hf2 hf1 hT2 hT1 (by omega))
/-- A magnitude's number with so many bits more, made odd. -/
def magV (id : Int) (more key : Nat) : Nat × Int := oddP 64 (numQ (fK id).toNat (fW id).toNat (fM id).toNat (fB id).toNat more key).1 (numQ (fK id).toNat (fW id).toNat (fM id).toNat (fB id).toNat more key).2
theorem oddP_odd (f m : Nat) (e : Int) (h : m % 2 = 1) : oddP f m e = (m, e) := by
  unfold oddP
  rw [if_neg (by omega)]
  have : tzN f m = 0 := by
    cases f with
    | zero => rfl
    | succ f => unfold tzN; rw [if_neg (by omega)]
  rw [this]; simp
theorem miM_zero (man : Nat) : miM man 0 = 0 := by unfold miM; simp
theorem miM_pos {man key : Nat} (h : 0 < key) : 0 < miM man key := by
  unfold miM
  split
  · rename_i h1
    have h2 := Nat.mod_add_div key (2 ^ man)
    rw [h1] at h2
    omega
  · have := Nat.two_pow_pos man
    omega
theorem miM_lt (man key : Nat) : miM man key < 2 ^ (man + 1) := by
  have h1 := Nat.mod_lt key (Nat.two_pow_pos man)
  unfold miM
  rw [Nat.pow_succ]
  split <;> omega
end Go.Cal
namespace Go.Cal
/-- Is a size P / Q to be rounded to a magnitude of a form, or a lesser one? -/
def wiF (id : Int) (P Q key : Nat) : Bool := wiN (fK id).toNat (fW id).toNat (fM id).toNat (fB id).toNat P Q key
/-- The magnitude of a size, where it is not too large. -/
def nearK (id : Int) (neg : Bool) (P Q : Nat) : Nat :=
  if fK id = 1 ∧ seek (wiF id P Q) (mostV id neg).toNat (fW id).toNat 0 = 0 ∧ P ≠ 0 then 1 else seek (wiF id P Q) (mostV id neg).toNat (fW id).toNat 0
def overB (id : Int) (neg : Bool) (P Q : Nat) : Bool := !wiF id P Q (mostV id neg).toNat
/-- The pattern of a number; what is wrong beside it. -/
def roundE (id mode : Int) : Int := if id < 1 ∨ 15 ≤ id then 3 else if mode ≠ 1 ∧ mode ≠ 2 then 1 else 0
def roundP (id mode : Int) (neg : Bool) (P Q : Nat) : Int :=
  if fK id = 4 ∧ (neg = true ∨ P = 0) then fN id
  else if overB id neg P Q = true then largeV id mode neg
  else patV id neg (nearK id neg P Q)
theorem fo_nat {id : Int} (h1 : 1 ≤ id) (h2 : id < 15) (neg : Bool) : (fB id).toNat ≤ 1900 ∧ (fB id).toNat + (fM id).toNat ≤ 1900 ∧ 2 ≤ (fW id).toNat ∧ (fW id).toNat ≤ 300 ∧ ((fK id).toNat = 1 ↔ fK id = 1) ∧ ((fK id).toNat = 1 → 2 * (mostV id neg).toNat + 1 < 2 ^ (fW id).toNat) ∧ (mostV id neg).toNat < 2 ^ (fW id).toNat := by
  rcases id_cases h1 h2 with rfl | rfl | rfl | rfl | rfl | rfl | rfl | rfl | rfl | rfl | rfl | rfl | rfl | rfl <;> cases neg <;> decide +kernel
/-- The same number otherwise written is rounded alike. -/
theorem wiF_cross {id : Int} {P Q P' Q' : Nat} (hq : 0 < Q) (hq' : 0 < Q') (h : P * Q' = P' * Q) (key : Nat) : wiF id P Q key = wiF id P' Q' key := by
  unfold wiF wiN
  generalize uN (fK id).toNat (fW id).toNat (fM id).toNat (fB id).toNat (2 * key + 1) = u
  have hl : (P * sc2 < u * Q) ↔ (P' * sc2 < u * Q') := by
    have e1 : P * sc2 * Q' = P' * sc2 * Q := by rw [Nat.mul_right_comm, h, Nat.mul_right_comm]
    constructor
    · intro hh
      have h3 := Nat.mul_lt_mul_of_pos_right hh hq'
      rw [e1, Nat.mul_right_comm u] at h3
      exact Nat.lt_of_mul_lt_mul_right h3
    · intro hh
      have h3 := Nat.mul_lt_mul_of_pos_right hh hq
      rw [← e1, Nat.mul_right_comm u] at h3
      exact Nat.lt_of_mul_lt_mul_right h3
  have he : (P * sc2 = u * Q) ↔ (P' * sc2 = u * Q') := by
    have e1 : P * sc2 * Q' = P' * sc2 * Q := by rw [Nat.mul_right_comm, h, Nat.mul_right_comm]
    constructor
    · intro hh
      have h3 : P' * sc2 * Q = u * Q' * Q := by rw [← e1, hh, Nat.mul_right_comm]
      exact Nat.eq_of_mul_eq_mul_right hq h3
    · intro hh
      have h3 : P * sc2 * Q' = u * Q * Q' := by rw [e1, hh, Nat.mul_right_comm]
      exact Nat.eq_of_mul_eq_mul_right hq' h3
  simp only [hl, he]
theorem seek_cong {w1 w2 : Nat → Bool} (h : ∀ k, w1 k = w2 k) (most : Nat) : ∀ b key, seek w1 most b key = seek w2 most b key := by
  rw [show w1 = w2 from funext h]; intros; rfl
theorem roundP_cross {id mode : Int} {neg : Bool} {P Q P' Q' : Nat} (hq : 0 < Q) (hq' : 0 < Q') (h : P * Q' = P' * Q) : roundP id mode neg P Q = roundP id mode neg P' Q' := by
  have hw := wiF_cross (id := id) hq hq' h
  have hz : P = 0 ↔ P' = 0 := by
    constructor
    · intro h0
      rw [h0, Nat.zero_mul] at h
      rcases Nat.mul_eq_zero.1 h.symm with h3 | h3
      · exact h3
      · omega
    · intro h0
      rw [h0, Nat.zero_mul] at h
      rcases Nat.mul_eq_zero.1 h with h3 | h3
      · exact h3
      · omega
  have hs := fun m b k => seek_cong hw m b k
  unfold roundP overB nearK
  simp only [hw, hs, hz, ne_eq]
theorem nearK_le (id : Int) (neg : Bool) (P Q : Nat) : (nearK id neg P Q : Int) ≤ mostV id neg := by
  have hm := mostV_bnd id neg
  have hs := seek_le (wi := wiF id P Q) (most := (mostV id neg).toNat) (fW id).toNat 0 (Nat.zero_le _)
  unfold nearK
  split <;> omega
end Go.Cal
