/- Plain: the interval of a pattern's sizes; its own number lies in it; digits that lie in it are rounded to the pattern. Conditions: none. -/
import Derived.Test.YtdlkfnkmdlcekaaGreatDoorShoB
import Derived.Test.YtdlkfnkmdlcekaaGreatDoorFo28
namespace Go.Proofs.YtdlkfnkmdlcekaaGreatDoor
open Go.RowKit Go.Cal
def limF (id : Int) : Nat := if fK id = 1 then 2 else 1
def limH (id : Int) (neg : Bool) (key : Nat) : Bool := decide ((key : Int) < mostV id neg) || decide (fK id ≠ 1 ∧ (fI id ≠ 0 ∨ fN id ≠ 0))
/-- What Limits tells. -/
def limV (id : Int) (neg : Bool) (key : Nat) : Itv :=
  ⟨if limF id ≤ key then (magV id 1 (2 * (key - 1) + 1)).1 else 0, if limF id ≤ key then (magV id 1 (2 * (key - 1) + 1)).2 else 0,
   if limH id neg key = true then (magV id 1 (2 * key + 1)).1 else 0, if limH id neg key = true then (magV id 1 (2 * key + 1)).2 else 0, key % 2 == 0⟩
theorem large_noH {id mode : Int} {neg : Bool} {key : Nat} (hk : (key : Int) ≤ mostV id neg) (h : limH id neg key = false) : (key : Int) = mostV id neg ∧ largeV id mode neg = patV id neg (mostV id neg) := by
  unfold limH at h
  simp only [Bool.or_eq_false_iff, decide_eq_false_iff_not] at h
  refine ⟨by omega, ?_⟩
  unfold largeV
  rw [if_pos]
  by_cases h1 : fK id = 1
  · exact .inr (.inl h1)
  · exact .inr (.inr ⟨Classical.byContradiction fun hi => h.2 ⟨h1, .inl hi⟩, Classical.byContradiction fun hi => h.2 ⟨h1, .inr hi⟩⟩)
/-- Digits that lie in the interval are rounded to its magnitude. -/
theorem itv_round {id mode : Int} {neg : Bool} {key d : Nat} {k : Int} (hE : mostE id neg = 0) (hk : (key : Int) ≤ mostV id neg) (hk1 : fK id = 1 → 0 < key) (hh : itvHas (limV id neg key) d k = true) :
    roundP id mode neg (exP d k k) (exQ k k) = patV id neg key := by
  obtain ⟨h1, h2, h3⟩ := mostE_zero hE
  have hf := (most_fit hE).1
  have hd := itv_pos hh
  unfold itvHas at hh
  rw [Bool.and_eq_true] at hh
  obtain ⟨hl, hr⟩ := hh
  have hq := exQ_pos k k
  refine round_at hE hq (exP_pos _ _ hd) hk hk1 ?_ ?_
  · by_cases hF : limF id ≤ key
    · right
      have e1 : (limV id neg key).lowN = (magV id 1 (2 * (key - 1) + 1)).1 := if_pos hF
      have e2 : (limV id neg key).lowT = (magV id 1 (2 * (key - 1) + 1)).2 := if_pos hF
      have hF1 : 1 ≤ key := by unfold limF at hF; split at hF <;> omega
      obtain ⟨m1, -, -, -, m5, m6⟩ := mag_range (key := key - 1) h1 h2 (by omega)
      rw [e1, e2] at hl
      obtain ⟨x1, x2⟩ := exC_wi (N := d) (t := k) (f := k) m5 m6
      have hw : wiF id (exP d k k) (exQ k k) (key - 1) = false := by
        unfold wiF wiN
        rw [Bool.or_eq_false_iff]
        rw [Bool.or_eq_true, decide_eq_true_eq] at hl
        rcases hl with hl | hl
        · refine ⟨?_, ?_⟩
          · rw [decide_eq_false_iff_not]; intro h; have := x1.2 h; omega
          · rw [Bool.and_eq_false_iff]; left; rw [decide_eq_false_iff_not]; intro h; have := x2.2 h; omega
        · simp only [Bool.and_eq_true, beq_iff_eq] at hl
          have hev : key % 2 = 0 := by
            have := hl.1.2
            unfold limV at this
            simpa using this
          refine ⟨?_, ?_⟩
          · rw [decide_eq_false_iff_not]; intro h; have := x1.2 h; omega
          · rw [Bool.and_eq_false_iff]; right; simp; omega
      intro i hi
      have := @wiF_mono id neg h1 h2 (exP d k k) (exQ k k) i (key - 1) hq (by omega) (by omega)
      cases hv : wiF id (exP d k k) (exQ k k) i with
      | false => rfl
      | true => rw [this hv] at hw; cases hw
    · unfold limF at hF
      by_cases k1 : fK id = 1
      · rw [if_pos k1] at hF
        left
        exact ⟨k1, by have := hk1 k1; omega⟩
      · rw [if_neg k1] at hF
        right; intro i hi; omega
  · by_cases hH : limH id neg key = true
    · left
      have e1 : (limV id neg key).highN = (magV id 1 (2 * key + 1)).1 := if_pos hH
      have e2 : (limV id neg key).highT = (magV id 1 (2 * key + 1)).2 := if_pos hH
      obtain ⟨m1, -, -, -, m5, m6⟩ := mag_range (key := key) h1 h2 (by omega)
      rw [e1, e2, if_pos m1] at hr
      obtain ⟨x1, x2⟩ := exC_wi (N := d) (t := k) (f := k) m5 m6
      unfold wiF wiN
      rw [Bool.or_eq_true] at hr ⊢
      rcases hr with hr | hr
      · left; rw [decide_eq_true_eq] at hr ⊢; exact x1.1 hr
      · right
        rw [Bool.and_eq_true, beq_iff_eq] at hr
        rw [Bool.and_eq_true, decide_eq_true_eq]
        refine ⟨x2.1 hr.1, ?_⟩
        have := hr.2
        unfold limV at this
        simpa using this
    · right
      exact large_noH hk (by simpa using hH)
theorem uN_top {id : Int} (h1 : 1 ≤ id) (h2 : id < 15) : uN (fK id).toNat (fW id).toNat (fM id).toNat (fB id).toNat (2 * (fitM id).toNat) < 2 ^ 4000 := by
  rcases id_cases h1 h2 with rfl | rfl | rfl | rfl | rfl | rfl | rfl | rfl | rfl | rfl | rfl | rfl | rfl | rfl <;> decide +kernel
theorem uN_le {id : Int} {i j : Nat} (h1 : 1 ≤ id) (h2 : id < 15) (h : i ≤ j) (hj : j ≤ 2 * (fitM id).toNat + 1) : uN (fK id).toNat (fW id).toNat (fM id).toNat (fB id).toNat (i) ≤ uN (fK id).toNat (fW id).toNat (fM id).toNat (fB id).toNat (j) := by
  rcases Nat.eq_or_lt_of_le h with h | h
  · rw [h]; exact Nat.le_refl _
  · obtain ⟨b1, b2, b3, b4, b5, b6, b7⟩ := fo_nat h1 h2 false
    refine Nat.le_of_lt (uN_mono (fun hk => ⟨by omega, b4, ?_⟩) b1 h)
    obtain ⟨_, _, c, _⟩ := mag_tab h1 h2
    have := (c (b5.1 hk)).1
    rw [show (fW id).toNat + 1 - 1 = (fW id).toNat by omega] at this
    omega
theorem uN_lt {id : Int} {i j : Nat} (h1 : 1 ≤ id) (h2 : id < 15) (h : i < j) (hj : j ≤ 2 * (fitM id).toNat + 1) : uN (fK id).toNat (fW id).toNat (fM id).toNat (fB id).toNat (i) < uN (fK id).toNat (fW id).toNat (fM id).toNat (fB id).toNat (j) := by
  obtain ⟨b1, b2, b3, b4, b5, b6, b7⟩ := fo_nat h1 h2 false
  refine uN_mono (fun hk => ⟨by omega, b4, ?_⟩) b1 h
  obtain ⟨_, _, c, _⟩ := mag_tab h1 h2
  have := (c (b5.1 hk)).1
  rw [show (fW id).toNat + 1 - 1 = (fW id).toNat by omega] at this
  omega
theorem sc_of {m u : Nat} {e : Int} (h0 : 0 ≤ (2000 : Int) + e) (h : m * 2 ^ ((2000 : Int) + e).toNat = u) : exP m e 0 * sc2 = u * exQ e 0 := by
  have e1 : exP m e 0 = m * 2 ^ e.toNat := by unfold exP; simp
  have e2 : exQ e 0 = 2 ^ (-e).toNat := by unfold exQ; simp
  have g0 : 2000 = (-e).toNat + (2000 - (-e).toNat) := by omega
  have g1 : ((2000 : Int) + e).toNat = e.toNat + (2000 - (-e).toNat) := by omega
  generalize hc : 2000 - (-e).toNat = c at g0 g1
  have hs : sc2 = 2 ^ (-e).toNat * 2 ^ c := by unfold sc2; rw [← Nat.pow_add, ← g0]
  rw [e1, e2, hs, ← h, g1, Nat.pow_add]
  ac_rfl
/-- A magnitude's own number, as Decode tells it. -/
theorem mag_range0 {id : Int} {key : Nat} (h1 : 1 ≤ id) (h2 : id < 15) (hk : (key : Int) ≤ fitM id) (h0 : fK id ≠ 4 → 0 < key) : 0 < (magV id 0 key).1 ∧ (magV id 0 key).1 < 18446744073709551616 ∧ -2000 ≤ (magV id 0 key).2 ∧ (magV id 0 key).2 ≤ 2000 ∧
    0 ≤ (2000 : Int) + (magV id 0 key).2 ∧ (magV id 0 key).1 * 2 ^ ((2000 : Int) + (magV id 0 key).2).toNat = uN (fK id).toNat (fW id).toNat (fM id).toNat (fB id).toNat (2 * key) := by
  obtain ⟨w1, w2, w3, w4, -⟩ := fo_wide h1 h2
  have hKn := fK_nat id
  have hKb := fK_bnd id
  obtain ⟨k0, kw, k1, k2, k4⟩ := mag_own h1 h2 hk (fun h => h0 (by omega))
  obtain ⟨c1, c2⟩ := numQ_two (fK id).toNat (fW id).toNat (fM id).toNat (fB id).toNat key (fun h => ⟨by omega, by omega, by have := (k1 (by omega)).1; exact this, by have := (k1 (by omega)).2; exact this⟩) (by omega)
  have hb : 0 < (numQ (fK id).toNat (fW id).toNat (fM id).toNat (fB id).toNat 0 key).1 ∧ (numQ (fK id).toNat (fW id).toNat (fM id).toNat (fB id).toNat 0 key).1 < 18446744073709551616 := by
    by_cases h4 : fK id = 4
    · have e : numQ (fK id).toNat (fW id).toNat (fM id).toNat (fB id).toNat 0 key = (1 + 2 * 0, ((key / 2 ^ 0 : Nat) : Int) - (fB id).toNat - ((0 : Nat) : Int)) := by
        unfold numQ
        rw [h4]; rfl
      rw [e]
      exact ⟨show 0 < 1 by decide, show 1 < 18446744073709551616 by decide⟩
    · obtain ⟨b1, b2, b3⟩ := numQ_bnd (kd := (fK id).toNat) (wd := (fW id).toNat) (mn := (fM id).toNat) (bs := (fB id).toNat) (j := key) (more := 0) (by decide) (h0 h4) kw
        (fun h => ⟨by omega, (k1 (by omega)).2⟩) w3 (fun h => k2 (by omega)) (fun h3 h4 h5 => by omega)
      exact ⟨b1, b2⟩
  obtain ⟨d1, d2, d3, d4⟩ := oddP_bnd (e := (numQ (fK id).toNat (fW id).toNat (fM id).toNat (fB id).toNat 0 key).2) hb.1 hb.2
  have hv := oddP_val (f := 64) (m := (numQ (fK id).toNat (fW id).toNat (fM id).toNat (fB id).toNat 0 key).1) (K := 2000) (e := (numQ (fK id).toNat (fW id).toNat (fM id).toNat (fB id).toNat 0 key).2) c1
  have e5 : 0 ≤ (2000 : Int) + (magV id 0 key).2 := by
    show 0 ≤ (2000 : Int) + (oddP 64 _ _).2
    omega
  have e6 : (magV id 0 key).1 * 2 ^ ((2000 : Int) + (magV id 0 key).2).toNat = uN (fK id).toNat (fW id).toNat (fM id).toNat (fB id).toNat (2 * key) := hv.trans c2
  have e1 : 0 < (magV id 0 key).1 := d1
  refine ⟨d1, d2, by omega, ?_, e5, e6⟩
  have hlt : 2 ^ ((2000 : Int) + (magV id 0 key).2).toNat < 2 ^ 4000 := by
    refine Nat.lt_of_le_of_lt ?_ (uN_top h1 h2)
    refine Nat.le_trans ?_ (uN_le h1 h2 (i := 2 * key) (by omega) (by omega))
    rw [← e6]
    exact Nat.le_mul_of_pos_left _ e1
  have := (Nat.pow_lt_pow_iff_right (a := 2) (by decide)).1 hlt
  omega
/-- Where nothing is left over, the digits lie in the interval. -/
theorem itv_own {id : Int} {neg : Bool} {key d : Nat} {k : Int} (hE : mostE id neg = 0) (hk : (key : Int) ≤ mostV id neg) (h0 : fK id ≠ 4 → 0 < key)
    (hd : exP d k k * exQ (magV id 0 key).2 0 = exP (magV id 0 key).1 (magV id 0 key).2 0 * exQ k k) : itvHas (limV id neg key) d k = true := by
  obtain ⟨h1, h2, h3⟩ := mostE_zero hE
  have hf := (most_fit hE).1
  obtain ⟨a1, a2, a3, a4, a5, a6⟩ := mag_range0 h1 h2 (by omega) h0
  have hs := sc_of a5 a6
  have hx : exP d k k * sc2 = uN (fK id).toNat (fW id).toNat (fM id).toNat (fB id).toNat (2 * key) * exQ k k := by
    refine Nat.eq_of_mul_eq_mul_right (exQ_pos (magV id 0 key).2 0) ?_
    rw [Nat.mul_right_comm (exP d k k), hd, Nat.mul_right_comm (exP (magV id 0 key).1 (magV id 0 key).2 0), hs, Nat.mul_right_comm]
  have hq := exQ_pos k k
  unfold itvHas
  rw [Bool.and_eq_true]
  constructor
  · by_cases hF : limF id ≤ key
    · have e1 : (limV id neg key).lowN = (magV id 1 (2 * (key - 1) + 1)).1 := if_pos hF
      have e2 : (limV id neg key).lowT = (magV id 1 (2 * (key - 1) + 1)).2 := if_pos hF
      have hF1 : 1 ≤ key := by unfold limF at hF; split at hF <;> omega
      obtain ⟨m1, -, -, -, m5, m6⟩ := mag_range (key := key - 1) h1 h2 (by omega)
      obtain ⟨x1, x2⟩ := exC_wi (N := d) (t := k) (f := k) m5 m6
      rw [e1, e2]
      have hlt : uN (fK id).toNat (fW id).toNat (fM id).toNat (fB id).toNat (2 * (key - 1) + 1) * exQ k k < exP d k k * sc2 := by
        rw [hx]; exact Nat.mul_lt_mul_of_pos_right (uN_lt h1 h2 (by clear hx hd a6 m6 x1 x2; omega) (by clear hx hd a6 m6 x1 x2; omega)) hq
      have n1 : ¬ exC d k k (magV id 1 (2 * (key - 1) + 1)).1 (magV id 1 (2 * (key - 1) + 1)).2 0 < 0 := fun h => absurd (x1.1 h) (Nat.not_lt.2 (Nat.le_of_lt hlt))
      have n2 : ¬ exC d k k (magV id 1 (2 * (key - 1) + 1)).1 (magV id 1 (2 * (key - 1) + 1)).2 0 = 0 := fun h => absurd (x2.1 h) (Nat.ne_of_gt hlt)
      rw [Bool.or_eq_true, decide_eq_true_eq]
      clear hlt x1 x2 hx hs hd a6 m6
      left; omega
    · have e1 : (limV id neg key).lowN = 0 := if_neg hF
      have e2 : (limV id neg key).lowT = 0 := if_neg hF
      have hd0 : 0 < d := by
        rcases Nat.eq_zero_or_pos d with h | h
        · subst h
          have hp := Nat.mul_pos (exP_pos (magV id 0 key).2 0 a1) hq
          rw [← hd] at hp
          clear hx hs a6 hd
          simp [exP] at hp
        · exact h
      rw [e1, e2, exC_zero_r, cmpV_gt (a := (d : Int)) (b := 0) (by omega)]
      rfl
  · by_cases hH : limH id neg key = true
    · have e1 : (limV id neg key).highN = (magV id 1 (2 * key + 1)).1 := if_pos hH
      have e2 : (limV id neg key).highT = (magV id 1 (2 * key + 1)).2 := if_pos hH
      obtain ⟨m1, -, -, -, m5, m6⟩ := mag_range (key := key) h1 h2 (by omega)
      obtain ⟨x1, x2⟩ := exC_wi (N := d) (t := k) (f := k) m5 m6
      rw [e1, e2, if_pos m1]
      have hlt : exP d k k * sc2 < uN (fK id).toNat (fW id).toNat (fM id).toNat (fB id).toNat (2 * key + 1) * exQ k k := by
        rw [hx]; exact Nat.mul_lt_mul_of_pos_right (uN_lt h1 h2 (by clear hx hd a6 m6 x1 x2; omega) (by clear hx hd a6 m6 x1 x2; omega)) hq
      rw [Bool.or_eq_true, decide_eq_true_eq]
      exact .inl (x1.2 hlt)
    · have e1 : (limV id neg key).highN = 0 := if_neg hH
      rw [e1]
      rfl
end Go.Proofs.YtdlkfnkmdlcekaaGreatDoor
