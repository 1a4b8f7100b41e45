/- Plain: the shortest digits are no greater than all digits. Conditions: none. -/
/- Plain: digits that are rounded to a pattern lie in its interval; how the document finds the shortest ones. Conditions: none. -/
/- Plain: the document's search for the shortest digits ends in time, where the code's does. Conditions: none. -/
/- Plain: the document's highest place is the code's; within twenty places there are digits. Conditions: none. -/
import Derived.Test.YtncfbleeidjflaaGreatDoorPz42
import Derived.Test.YtncfbleeidjflaaGreatDoorPz35
import Derived.Test.YtncfbleeidjflaaGreatDoorPz02
namespace Go.Proofs.YtncfbleeidjflaaGreatDoor
open Go.RowKit Go.Cal
/-- The number as an exact quotient: one cross sum. -/
theorem fl_cross {N m : Nat} {e k : Int} : ∃ C, 0 < C ∧ exP N k k * exQ e 0 = N * flB e k * C ∧ exP m e 0 * exQ k k = flA m e k * C := by
  have c1 := exP_cross N k k e 0
  have c2 := exP_cross m e 0 k k
  have e1 : exP N (k - e) (k - 0) = N * flB e k := by
    unfold flB exP
    rw [Nat.one_mul, Int.sub_zero, Nat.mul_assoc]
  have e2 : exP m (e - k) (0 - k) = flA m e k := by unfold flA; rw [Int.zero_sub]
  rw [e1] at c1
  rw [e2] at c2
  refine ⟨_, Nat.mul_pos (Nat.pow_pos (by decide)) (Nat.two_pow_pos _), c1, ?_⟩
  rw [c2]
  congr 3 <;> omega
/-- The search from above ends at no power below one that goes in. -/
theorem seekL_top {N : Nat} {t X : Int} (hX : ¬ exC N t 0 1 X X < 0) : ∀ (f : Nat) (k : Int), X ≤ k → k - X < f → X ≤ seekL N t f k
  | 0, k, h, h' => by omega
  | f + 1, k, h, h' => by
    unfold seekL
    by_cases hc : exC N t 0 1 k k < 0
    · rw [if_pos hc]
      have hk : X < k := by
        rcases Int.lt_or_eq_of_le h with h1 | h1
        · exact h1
        · subst h1; exact absurd hc hX
      exact seekL_top hX f (k - 1) (by omega) (by omega)
    · rw [if_neg hc]; exact h
theorem lgS_top {N : Nat} {t X : Int} (hN : N < 2 ^ 64) (ht : -2000 ≤ t ∧ t ≤ 2000) (hX : exP 1 X X * exQ t 0 ≤ exP N t 0 * exQ X X) : X ≤ lgS N t := by
  have hb64 : bl N ≤ 64 := bl_iff.2 hN
  have hb : N < 2 ^ bl N := bl_iff.1 (Nat.le_refl _)
  have hS : exS (bl N) t 0 = (bl N : Int) + t := by unfold exS; simp
  unfold lgS
  rw [hS]
  generalize bl N = b at hb hb64 ⊢
  unfold exP exQ at hX
  simp only [Int.toNat_zero, Int.neg_zero, Nat.pow_zero, Nat.mul_one, Nat.one_mul] at hX
  rw [← Nat.mul_pow, ← Nat.mul_pow] at hX
  have hlt : 10 ^ X.toNat * 2 ^ (-t).toNat < 2 ^ (b + t.toNat) * 10 ^ (-X).toNat := by
    refine Nat.lt_of_le_of_lt hX ?_
    rw [Nat.pow_add]
    exact Nat.mul_lt_mul_of_pos_right (Nat.mul_lt_mul_of_pos_right hb (Nat.two_pow_pos _)) (Nat.pow_pos (by decide))
  clear hX hb hS hN
  have hup : (2 : Nat) ^ 93 < 10 ^ 28 := by decide +kernel
  have hlo : (10 : Nat) ^ 59 < 2 ^ 196 := by decide +kernel
  rcases Int.le_total 0 X with h0 | h0
  · rw [show (-X).toNat = 0 by omega, Nat.pow_zero, Nat.mul_one] at hlt
    have hs : 0 < (b : Int) + t := by
      rcases Int.lt_or_le 0 ((b : Int) + t) with h | h
      · exact h
      · exfalso
        have h1 : 2 ^ (b + t.toNat) ≤ 2 ^ (-t).toNat := Nat.pow_le_pow_right (by decide) (by omega)
        have h2 : 2 ^ (-t).toNat ≤ 10 ^ X.toNat * 2 ^ (-t).toNat := Nat.le_mul_of_pos_left _ (Nat.pow_pos (by decide))
        omega
    obtain ⟨s, hs'⟩ : ∃ s : Nat, (b : Int) + t = s := ⟨((b : Int) + t).toNat, by omega⟩
    have h1 : 10 ^ X.toNat < 2 ^ s := by
      rw [show b + t.toNat = s + (-t).toNat by omega, Nat.pow_add] at hlt
      exact Nat.lt_of_mul_lt_mul_right hlt
    have h2 : 10 ^ (X.toNat * 93) < 10 ^ (28 * s) := by
      calc 10 ^ (X.toNat * 93) = (10 ^ X.toNat) ^ 93 := Nat.pow_mul 10 _ 93
        _ < (2 ^ s) ^ 93 := Nat.pow_lt_pow_left h1 (by decide)
        _ = (2 ^ 93) ^ s := by rw [← Nat.pow_mul, Nat.mul_comm, Nat.pow_mul]
        _ ≤ (10 ^ 28) ^ s := Nat.pow_le_pow_left (Nat.le_of_lt hup) _
        _ = 10 ^ (28 * s) := (Nat.pow_mul 10 28 s).symm
    have h3 := (Nat.pow_lt_pow_iff_right (a := 10) (by decide)).1 h2
    clear hlt h1 h2
    have hn : 0 ≤ (((b : Int) + t + 6) * 30103) := by omega
    rw [Int.tdiv_eq_ediv_of_nonneg hn, if_pos (by omega)]
    omega
  · rw [show X.toNat = 0 by omega, Nat.pow_zero, Nat.one_mul] at hlt
    rcases Int.lt_or_le ((b : Int) + t + 6) 0 with hs | hs
    · obtain ⟨s, hs'⟩ : ∃ s : Nat, -((b : Int) + t) = s := ⟨(-((b : Int) + t)).toNat, by omega⟩
      obtain ⟨a, ha⟩ : ∃ a : Nat, -X = a := ⟨(-X).toNat, by omega⟩
      have h1 : 2 ^ s < 10 ^ a := by
        rw [show (-t).toNat = (b + t.toNat) + s by omega, Nat.pow_add, show (-X).toNat = a by omega] at hlt
        exact Nat.lt_of_mul_lt_mul_left hlt
      have h2 : 10 ^ (59 * s) < 10 ^ (a * 196) := by
        calc 10 ^ (59 * s) = (10 ^ 59) ^ s := Nat.pow_mul 10 59 s
          _ ≤ (2 ^ 196) ^ s := Nat.pow_le_pow_left (Nat.le_of_lt hlo) _
          _ = (2 ^ s) ^ 196 := by rw [← Nat.pow_mul, Nat.mul_comm, Nat.pow_mul]
          _ < (10 ^ a) ^ 196 := Nat.pow_lt_pow_left h1 (by decide)
          _ = 10 ^ (a * 196) := (Nat.pow_mul 10 a 196).symm
      have h3 := (Nat.pow_lt_pow_iff_right (a := 10) (by decide)).1 h2
      clear hlt h1 h2
      have e : (((b : Int) + t + 6) * 30103) = -(-(((b : Int) + t + 6) * 30103)) := by omega
      rw [e, Int.neg_tdiv, Int.tdiv_eq_ediv_of_nonneg (by omega)]
      split <;> omega
    · have hn : 0 ≤ (((b : Int) + t + 6) * 30103) := by omega
      rw [Int.tdiv_eq_ediv_of_nonneg hn, if_pos (by omega)]
      clear hlt
      omega
theorem lgV_top {N : Nat} {t X : Int} (hN : N < 2 ^ 64) (ht : -2000 ≤ t ∧ t ≤ 2000) (hx0 : -4000 ≤ X) (hX : exP 1 X X * exQ t 0 ≤ exP N t 0 * exQ X X) : X ≤ lgV N t := by
  have h1 := lgS_top hN ht hX
  have h2 := (lgS_bnd hN ht).2
  refine seekL_top (fun h => ?_) 6000 (lgS N t) h1 (by omega)
  unfold exC at h
  rcases cmpV_cases ((exP N t 0 * exQ X X : Nat) : Int) ((exP 1 X X * exQ t 0 : Nat) : Int) with ⟨h', hv⟩ | ⟨h', hv⟩ | ⟨h', hv⟩
  · omega
  · rw [hv] at h; exact absurd h (by decide)
  · rw [hv] at h; exact absurd h (by decide)
end Go.Proofs.YtncfbleeidjflaaGreatDoor
namespace Go.Proofs.YtncfbleeidjflaaGreatDoor
open Go.RowKit Go.Cal
theorem pat_inj {id : Int} {ng n2 : Bool} {K L : Int} (hE : mostE id ng = 0) (hE2 : mostE id n2 = 0) (k0 : 0 ≤ K) (hK : K ≤ mostV id ng) (l0 : 0 ≤ L) (hL : L ≤ mostV id n2) (h : patV id ng K = patV id n2 L) : K = L := by
  have a := pat_key hE k0 hK
  have b := pat_key hE2 l0 hL
  rw [h, b] at a
  exact a.symm
theorem mostE_pos {id : Int} {ng : Bool} (h : mostE id ng = 0) : mostE id false = 0 := by
  obtain ⟨h1, h2, -⟩ := mostE_zero h
  unfold mostE
  rw [if_neg (by omega), if_neg (by simp)]
/-- What is rounded to infinity, or to no number, is no pattern of a number. -/
theorem large_pat {id mode : Int} {ng : Bool} {K : Nat} (hE : mostE id ng = 0) (hK : (K : Int) ≤ mostV id ng) (h0 : fK id ≠ 4 → 0 < K) (h : largeV id mode ng = patV id ng K) : (K : Int) = mostV id ng ∧ (limH id ng K = true → mode = 1) := by
  obtain ⟨i1, i2, i3⟩ := mostE_zero hE
  have hb := mostV_bnd id ng
  have hc := pat_class hE (Int.natCast_nonneg K) hK
  unfold largeV at h
  by_cases hc1 : mode = 1 ∨ fK id = 1 ∨ (fI id = 0 ∧ fN id = 0)
  · rw [if_pos hc1] at h
    have e := pat_inj hE hE (by omega) (Int.le_refl _) (Int.natCast_nonneg K) hK h
    refine ⟨e.symm, fun hl => ?_⟩
    unfold limH at hl
    rw [Bool.or_eq_true, decide_eq_true_eq, decide_eq_true_eq] at hl
    rcases hc1 with h1 | h1 | ⟨h1, h2⟩
    · exact h1
    · rcases hl with hl | ⟨hl, -⟩
      · omega
      · exact absurd h1 hl
    · rcases hl with hl | ⟨-, hl | hl⟩
      · omega
      · exact absurd h1 hl
      · exact absurd h2 hl
  · rw [if_neg hc1] at h
    exfalso
    have hx : classV id (if fI id = 0 then fN id else if ng = true then fI id + 2 ^ ((fW id).toNat - 1) else fI id) = 3 ∨ classV id (if fI id = 0 then fN id else if ng = true then fI id + 2 ^ ((fW id).toNat - 1) else fI id) = 4 := by
      rcases id_cases i1 i2 with rfl | rfl | rfl | rfl | rfl | rfl | rfl | rfl | rfl | rfl | rfl | rfl | rfl | rfl <;> cases ng <;> first | decide +kernel | (exfalso; revert hc1; simp [fK, fI, fN]) | (exfalso; revert i3; simp [fK])
    rw [h, hc] at hx
    split at hx <;> omega
theorem wi_low {id : Int} {d K : Nat} {k : Int} (h1 : 1 ≤ id) (h2 : id < 15) (hF1 : 1 ≤ K) (hk : (K : Int) ≤ fitM id) (hw : wiF id (exP d k k) (exQ k k) (K - 1) = false) :
    (decide (0 < exC d k k (magV id 1 (2 * (K - 1) + 1)).1 (magV id 1 (2 * (K - 1) + 1)).2 0) || (exC d k k (magV id 1 (2 * (K - 1) + 1)).1 (magV id 1 (2 * (K - 1) + 1)).2 0 == 0 && (K % 2 == 0) && decide (0 < (magV id 1 (2 * (K - 1) + 1)).1))) = true := by
  obtain ⟨m1, -, -, -, m5, m6⟩ := mag_range (key := K - 1) h1 h2 (by omega)
  rcases wi_cases (key := K - 1) d k k m5 m6 with ⟨a, b⟩ | ⟨a, b⟩ | ⟨a, b⟩
  · rw [hw] at b; cases b
  · rw [hw] at b
    have : K % 2 = 0 := by
      have := b.symm
      simp at this
      omega
    rw [a]
    simp [this, m1]
  · rw [a]; simp
theorem wi_high {id : Int} {d K : Nat} {k : Int} (h1 : 1 ≤ id) (h2 : id < 15) (hk : (K : Int) ≤ fitM id) (hw : wiF id (exP d k k) (exQ k k) K = true) :
    (decide ((if 0 < (magV id 1 (2 * K + 1)).1 then exC d k k (magV id 1 (2 * K + 1)).1 (magV id 1 (2 * K + 1)).2 0 else -1) < 0) || ((if 0 < (magV id 1 (2 * K + 1)).1 then exC d k k (magV id 1 (2 * K + 1)).1 (magV id 1 (2 * K + 1)).2 0 else -1) == 0 && (K % 2 == 0))) = true := by
  obtain ⟨m1, -, -, -, m5, m6⟩ := mag_range (key := K) h1 h2 hk
  rw [if_pos m1]
  rcases wi_cases (key := K) d k k m5 m6 with ⟨a, b⟩ | ⟨a, b⟩ | ⟨a, b⟩
  · rw [a]; simp
  · rw [hw] at b
    rw [a, ← b]; simp
  · rw [hw] at b; cases b
/-- Digits that are rounded to a number's pattern lie in its interval. -/
theorem round_itv {id mode : Int} {ng : Bool} {K d : Nat} {k : Int} (hm : mode ≠ 1) (hE : mostE id ng = 0) (hK : (K : Int) ≤ mostV id ng) (h0 : fK id ≠ 4 → 0 < K)
    (h : roundP id mode (ng && decide (0 < d)) (exP d k k) (exQ k k) = patV id ng K) : itvHas (limV id ng K) d k = true := by
  obtain ⟨h1, h2, h3⟩ := mostE_zero hE
  have hf := (most_fit hE).1
  have hb := mostV_bnd id ng
  have hq := exQ_pos k k
  have hE0 := mostE_pos hE
  rcases Nat.eq_zero_or_pos d with hd | hd
  · exfalso
    subst hd
    rw [show (ng && decide (0 < 0)) = false by simp] at h
    have hP : exP 0 k k = 0 := by simp [exP]
    rw [hP] at h
    unfold roundP at h
    have hb0 := mostV_bnd id false
    by_cases h4 : fK id = 4
    · rw [if_pos ⟨h4, .inr rfl⟩] at h
      have hc := pat_class hE (Int.natCast_nonneg K) hK
      rw [← h] at hc
      have : classV id (fN id) = 4 := by
        rcases id_cases h1 h2 with rfl | rfl | rfl | rfl | rfl | rfl | rfl | rfl | rfl | rfl | rfl | rfl | rfl | rfl <;> first | decide +kernel | (exfalso; revert h4; decide)
      rw [this] at hc
      split at hc <;> omega
    · rw [if_neg (by rintro ⟨x, -⟩; exact h4 x)] at h
      have hw : ∀ j : Nat, (j : Int) ≤ mostV id false → wiF id 0 (exQ k k) j = true := by
        intro j hj
        unfold wiF wiN
        have hp : 0 < uN (fK id).toNat (fW id).toNat (fM id).toNat (fB id).toNat (2 * j + 1) := by
          obtain ⟨m1, -, -, -, m5, m6⟩ := mag_range (key := j) h1 h2 (by have := (most_fit hE0).1; omega)
          rw [← m6]
          exact Nat.mul_pos m1 (Nat.two_pow_pos _)
        rw [Nat.zero_mul, decide_eq_true (Nat.mul_pos hp hq)]
        rfl
      have ho : overB id false 0 (exQ k k) = false := by
        unfold overB
        rw [hw _ (by omega)]
        rfl
      rw [ho, if_neg (by simp)] at h
      have hn : nearK id false 0 (exQ k k) = 0 := by
        unfold nearK
        rw [seek_wi h1 h2 hq (hw 0 (by omega)) (fun i hi => by omega) (Nat.zero_le _), if_neg (by rintro ⟨-, -, x⟩; exact x rfl)]
      rw [hn] at h
      have e := pat_inj hE0 hE (Int.le_refl 0) (by omega) (Int.natCast_nonneg K) hK h
      have := h0 h4
      omega
  · rw [show (ng && decide (0 < d)) = ng by simp [hd]] at h
    have hP := exP_pos k k hd
    have h4 : ¬ (fK id = 4 ∧ (ng = true ∨ exP d k k = 0)) := by
      rintro ⟨hk4, hn⟩
      rcases hn with hn | hn
      · exact h3 hn hk4
      · omega
    unfold roundP at h
    rw [if_neg h4] at h
    have hlow0 : ∀ n, exC d k k 0 n 0 = 1 := fun n => by rw [exC_zero_r, cmpV_gt (a := (d : Int)) (b := 0) (by omega)]
    by_cases hw : wiF id (exP d k k) (exQ k k) (mostV id ng).toNat = true
    · rw [if_neg (by unfold overB; rw [hw]; decide)] at h
      have hn := pat_inj hE hE (Int.natCast_nonneg _) (nearK_le id ng (exP d k k) (exQ k k)) (Int.natCast_nonneg K) hK h
      obtain ⟨a, ha1, ha2, ha3⟩ := least_of hw
      have hs := seek_wi (neg := ng) h1 h2 hq ha2 ha3 ha1
      have hna : nearK id ng (exP d k k) (exQ k k) = if fK id = 1 ∧ a = 0 ∧ exP d k k ≠ 0 then 1 else a := by unfold nearK; rw [hs]
      have hKa : K = if fK id = 1 ∧ a = 0 ∧ exP d k k ≠ 0 then 1 else a := by omega
      have haK : a ≤ K := by rw [hKa]; split <;> omega
      have hwK : wiF id (exP d k k) (exQ k k) K = true := wiF_mono (neg := ng) h1 h2 hq haK (by omega) ha2
      unfold itvHas
      rw [Bool.and_eq_true]
      constructor
      · by_cases hF : limF id ≤ K
        · have e1 : (limV id ng K).lowN = (magV id 1 (2 * (K - 1) + 1)).1 := if_pos hF
          have e2 : (limV id ng K).lowT = (magV id 1 (2 * (K - 1) + 1)).2 := if_pos hF
          have e3 : (limV id ng K).even = (K % 2 == 0) := rfl
          have hF1 : 1 ≤ K := by unfold limF at hF; split at hF <;> omega
          rw [e1, e2, e3]
          refine wi_low h1 h2 hF1 (by omega) (ha3 _ ?_)
          have : K = a := by
            rw [hKa]
            split
            · rename_i hx
              unfold limF at hF
              rw [if_pos hx.1] at hF
              rw [if_pos hx] at hKa
              omega
            · rfl
          omega
        · have e1 : (limV id ng K).lowN = 0 := if_neg hF
          rw [e1, hlow0]
          rfl
      · by_cases hH : limH id ng K = true
        · have e1 : (limV id ng K).highN = (magV id 1 (2 * K + 1)).1 := if_pos hH
          have e2 : (limV id ng K).highT = (magV id 1 (2 * K + 1)).2 := if_pos hH
          have e3 : (limV id ng K).even = (K % 2 == 0) := rfl
          rw [e1, e2, e3]
          exact wi_high h1 h2 (by omega) hwK
        · have e1 : (limV id ng K).highN = 0 := if_neg hH
          rw [e1]
          rfl
    · have hw' : wiF id (exP d k k) (exQ k k) (mostV id ng).toNat = false := by simpa using hw
      rw [if_pos (by unfold overB; rw [hw']; rfl)] at h
      obtain ⟨hKm, hH⟩ := large_pat hE hK h0 h
      have hH' : ¬ limH id ng K = true := fun x => hm (hH x)
      unfold itvHas
      rw [Bool.and_eq_true]
      constructor
      · by_cases hF : limF id ≤ K
        · have e1 : (limV id ng K).lowN = (magV id 1 (2 * (K - 1) + 1)).1 := if_pos hF
          have e2 : (limV id ng K).lowT = (magV id 1 (2 * (K - 1) + 1)).2 := if_pos hF
          have e3 : (limV id ng K).even = (K % 2 == 0) := rfl
          have hF1 : 1 ≤ K := by unfold limF at hF; split at hF <;> omega
          rw [e1, e2, e3]
          refine wi_low h1 h2 hF1 (by omega) ?_
          cases hv : wiF id (exP d k k) (exQ k k) (K - 1) with
          | false => rfl
          | true =>
            have := wiF_mono (neg := ng) h1 h2 hq (show K - 1 ≤ (mostV id ng).toNat by omega) (Nat.le_refl _) hv
            rw [hw'] at this
            cases this
        · have e1 : (limV id ng K).lowN = 0 := if_neg hF
          rw [e1, hlow0]
          rfl
      · have e1 : (limV id ng K).highN = 0 := if_neg hH'
        rw [e1]
        rfl
theorem round_iff {id mode : Int} {ng : Bool} {K d : Nat} {k : Int} (hm : mode ≠ 1) (hE : mostE id ng = 0) (hK : (K : Int) ≤ mostV id ng) (h0 : fK id ≠ 4 → 0 < K) :
    (roundP id mode (ng && decide (0 < d)) (exP d k k) (exQ k k) == patV id ng K) = itvHas (limV id ng K) d k := by
  cases hi : itvHas (limV id ng K) d k with
  | true =>
    have hd := itv_pos hi
    rw [show (ng && decide (0 < d)) = ng by simp [hd], itv_round hE hK (fun h1 => h0 (by omega)) hi]
    simp
  | false =>
    rw [beq_eq_false_iff_ne]
    intro h
    rw [round_itv hm hE hK h0 h] at hi
    cases hi
end Go.Proofs.YtncfbleeidjflaaGreatDoor
namespace Go.Proofs.YtncfbleeidjflaaGreatDoor
open Go.RowKit Go.Cal
theorem ten_P (N : Nat) (k : Int) : exP N k k = N * 10 ^ k.toNat := by
  unfold exP
  rw [Nat.mul_assoc, show (10 : Nat) = 5 * 2 from rfl, Nat.mul_pow]
theorem ten_Q (k : Int) : exQ k k = 10 ^ (-k).toNat := by
  unfold exQ
  rw [show (10 : Nat) = 5 * 2 from rfl, Nat.mul_pow]
theorem pow_shift (b t : Nat) (k : Int) : b ^ (k + t).toNat * b ^ (-k).toNat = b ^ t * b ^ k.toNat * b ^ (-(k + t)).toNat := by
  rw [← Nat.pow_add, ← Nat.pow_add, ← Nat.pow_add]
  congr 1
  omega
theorem sc2_gt : 0 < sc2 := by unfold sc2; generalize 2000 = n; exact Nat.two_pow_pos n
/-- Two numbers of at most 64 bits, times powers of two: how far they are apart. -/
theorem gap_two {m n A B a b H : Nat} (hm : m < H) (hn : n < H) (ha : a = m * 2 ^ A) (hb : b = n * 2 ^ B) (hlt : b < a) : a ≤ 2 * H * (a - b) := by
  rcases Nat.le_total A B with h | h
  · obtain ⟨c, rfl⟩ : ∃ c, B = A + c := ⟨B - A, by omega⟩
    have hb2 : b = n * 2 ^ c * 2 ^ A := by rw [hb, Nat.pow_add]; ac_rfl
    have hlt2 : n * 2 ^ c < m := by
      rw [hb2, ha] at hlt
      exact Nat.lt_of_mul_lt_mul_right hlt
    have hd : 2 ^ A ≤ a - b := by
      rw [ha, hb2, ← Nat.sub_mul]
      exact Nat.le_mul_of_pos_left _ (by omega)
    calc a = m * 2 ^ A := ha
      _ ≤ 2 * H * 2 ^ A := Nat.mul_le_mul_right _ (by omega)
      _ ≤ 2 * H * (a - b) := Nat.mul_le_mul_left _ hd
  · obtain ⟨c, rfl⟩ : ∃ c, A = B + c := ⟨A - B, by omega⟩
    have ha2 : a = m * 2 ^ c * 2 ^ B := by rw [ha, Nat.pow_add]; ac_rfl
    have hlt2 : n < m * 2 ^ c := by
      rw [ha2, hb] at hlt
      exact Nat.lt_of_mul_lt_mul_right hlt
    have hd : 2 ^ B ≤ a - b := by
      rw [ha2, hb, ← Nat.sub_mul]
      exact Nat.le_mul_of_pos_left _ (by omega)
    by_cases h2 : 2 * b < a
    · have : a ≤ 2 * (a - b) := by omega
      refine Nat.le_trans this ?_
      rw [Nat.mul_assoc]
      exact Nat.mul_le_mul_left _ (Nat.le_mul_of_pos_left _ (by omega))
    · calc a ≤ 2 * b := by omega
        _ = 2 * (n * 2 ^ B) := by rw [hb]
        _ ≤ 2 * (H * 2 ^ B) := Nat.mul_le_mul_left _ (Nat.mul_le_mul_right _ (Nat.le_of_lt hn))
        _ = 2 * H * 2 ^ B := by rw [Nat.mul_assoc]
        _ ≤ 2 * H * (a - b) := Nat.mul_le_mul_left _ hd
/-- Sums: so near below a number are its digits, that they lie above a boundary. -/
theorem near_sum {a b W X U d s T : Nat} (hX : X * s = a * W) (hT : a ≤ T * (a - b)) (hU : T * U ≤ X) (hd : X < (d + 1) * U) (hb : b < a) (hs : 0 < s) (hT0 : 0 < T) : b * W < d * U * s := by
  have h1 : T * U * s ≤ X * s := Nat.mul_le_mul_right _ hU
  have h2 : a * W ≤ T * (a - b) * W := Nat.mul_le_mul_right _ hT
  have h3 : T * (U * s) ≤ T * ((a - b) * W) := by
    calc T * (U * s) = T * U * s := by rw [Nat.mul_assoc]
      _ ≤ X * s := h1
      _ = a * W := hX
      _ ≤ T * (a - b) * W := h2
      _ = T * ((a - b) * W) := by rw [Nat.mul_assoc]
  have h4 := Nat.le_of_mul_le_mul_left h3 hT0
  have h5 : X * s < (d + 1) * U * s := Nat.mul_lt_mul_of_pos_right hd hs
  rw [hX, Nat.succ_mul, Nat.add_mul] at h5
  rw [Nat.sub_mul] at h4
  have h6 : b * W ≤ a * W := Nat.mul_le_mul_right _ (Nat.le_of_lt hb)
  omega
/-- Twenty places below its highest one a number's digits lie in its interval. -/
theorem itv_near {id : Int} {neg : Bool} {key : Nat} {k : Int} (hE : mostE id neg = 0) (hk : (key : Int) ≤ mostV id neg) (h0 : fK id ≠ 4 → 0 < key)
    (hX : exP 1 (k + 20) (k + 20) * exQ (magV id 0 key).2 0 ≤ exP (magV id 0 key).1 (magV id 0 key).2 0 * exQ (k + 20) (k + 20)) :
    itvHas (limV id neg key) (flQ (magV id 0 key).1 (magV id 0 key).2 k) k = true := by
  obtain ⟨h1, h2, h3⟩ := mostE_zero hE
  have hf := (most_fit hE).1
  obtain ⟨a1, a2, a3, a4, a5, a6⟩ := mag_range0 h1 h2 (by omega) h0
  have hs := sc_of a5 a6
  obtain ⟨m, hm⟩ : ∃ m, (magV id 0 key).1 = m := ⟨_, rfl⟩
  obtain ⟨e, he⟩ : ∃ e, (magV id 0 key).2 = e := ⟨_, rfl⟩
  rw [hm, he] at hs hX ⊢
  rw [hm] at a1 a2
  rw [he] at a3 a4 a5
  rw [hm, he] at a6
  obtain ⟨d, hd⟩ : ∃ d, flQ m e k = d := ⟨_, rfl⟩
  obtain ⟨C, hC, c1, c2⟩ := fl_cross (N := 1) (m := m) (e := e) (k := k)
  obtain ⟨C', hC', c1', c2'⟩ := fl_cross (N := d) (m := m) (e := e) (k := k)
  have hB := flB_pos e k
  have hCC : C' = C := by
    have : flA m e k * C' = flA m e k * C := by rw [← c2, c2']
    exact Nat.eq_of_mul_eq_mul_left (exP_pos _ _ a1) this
  subst hCC
  rw [Nat.one_mul] at c1
  obtain ⟨U, hUd⟩ : ∃ U, flB e k * C' = U := ⟨_, rfl⟩
  have hq := exQ_pos k k
  have hqe := exQ_pos e 0
  have hs0 := sc2_gt
  obtain ⟨X, hXd⟩ : ∃ X, exP m e 0 * exQ k k = X := ⟨_, rfl⟩
  have hlo : d * U ≤ X := by
    rw [← hXd, c2, ← hUd, ← Nat.mul_assoc, ← hd]
    exact Nat.mul_le_mul_right _ (Nat.div_mul_le_self _ _)
  have hhi : X < (d + 1) * U := by
    rw [← hXd, c2, ← hUd, ← Nat.mul_assoc, ← hd]
    refine Nat.mul_lt_mul_of_pos_right ?_ hC'
    have := Nat.div_add_mod (flA m e k) (flB e k)
    have h4 := Nat.mod_lt (flA m e k) hB
    unfold flQ
    rw [Nat.succ_mul, Nat.mul_comm (flA m e k / flB e k)]
    omega
  have hd2 : exP d k k * exQ e 0 = d * U := by rw [c1', Nat.mul_assoc, hUd]
  have hXs : X * sc2 = uN (fK id).toNat (fW id).toNat (fM id).toNat (fB id).toNat (2 * key) * (exQ e 0 * exQ k k) := by
    rw [← hXd, Nat.mul_right_comm, hs, Nat.mul_assoc]
  have hU : 10 ^ 20 * U ≤ X := by
    rw [ten_P, ten_Q, Nat.one_mul] at hX
    rw [ten_P, Nat.one_mul, hUd] at c1
    rw [ten_Q] at hXd
    have e1 := pow_shift 10 20 k
    rw [show (k + ((20 : Nat) : Int)) = k + 20 from rfl] at e1
    obtain ⟨Z, hZ⟩ : ∃ Z, 10 ^ 20 = Z := ⟨_, rfl⟩
    rw [hZ] at e1 ⊢
    refine Nat.le_of_mul_le_mul_right ?_ (show 0 < 10 ^ (-(k + 20)).toNat from Nat.pow_pos (by decide))
    calc Z * U * 10 ^ (-(k + 20)).toNat = Z * 10 ^ k.toNat * 10 ^ (-(k + 20)).toNat * exQ e 0 := by rw [← c1]; ac_rfl
      _ = 10 ^ (k + 20).toNat * exQ e 0 * 10 ^ (-k).toNat := by rw [← e1]; ac_rfl
      _ ≤ exP m e 0 * 10 ^ (-(k + 20)).toNat * 10 ^ (-k).toNat := Nat.mul_le_mul_right _ hX
      _ = X * 10 ^ (-(k + 20)).toNat := by rw [← hXd]; ac_rfl
  unfold itvHas
  rw [Bool.and_eq_true]
  constructor
  · by_cases hF : limF id ≤ key
    · have e1 : (limV id neg key).lowN = (magV id 1 (2 * (key - 1) + 1)).1 := if_pos hF
      have e2 : (limV id neg key).lowT = (magV id 1 (2 * (key - 1) + 1)).2 := if_pos hF
      have hF1 : 1 ≤ key := by unfold limF at hF; split at hF <;> omega
      obtain ⟨m1, m2, -, -, m5, m6⟩ := mag_range (key := key - 1) h1 h2 (by omega)
      obtain ⟨x1, x2⟩ := exC_wi (N := d) (t := k) (f := k) m5 m6
      rw [e1, e2]
      have hlt0 : uN (fK id).toNat (fW id).toNat (fM id).toNat (fB id).toNat (2 * (key - 1) + 1) < uN (fK id).toNat (fW id).toNat (fM id).toNat (fB id).toNat (2 * key) := uN_lt h1 h2 (by clear hs a6 m6 x1 x2 hXs; omega) (by clear hs a6 m6 x1 x2 hXs; omega)
      have hg := gap_two a2 m2 a6.symm m6.symm hlt0
      obtain ⟨H, hH⟩ : ∃ H, 2 * 18446744073709551616 = H := ⟨_, rfl⟩
      rw [hH] at hg
      have hHU : H * U ≤ X := by
        refine Nat.le_trans (Nat.mul_le_mul_right _ ?_) hU
        rw [← hH]
        decide
      have hH0 : 0 < H := by omega
      have hns := near_sum hXs hg hHU hhi hlt0 hs0 hH0
      have hlt : uN (fK id).toNat (fW id).toNat (fM id).toNat (fB id).toNat (2 * (key - 1) + 1) * exQ k k < exP d k k * sc2 := by
        refine Nat.lt_of_mul_lt_mul_right (a := exQ e 0) ?_
        calc uN (fK id).toNat (fW id).toNat (fM id).toNat (fB id).toNat (2 * (key - 1) + 1) * exQ k k * exQ e 0 = uN (fK id).toNat (fW id).toNat (fM id).toNat (fB id).toNat (2 * (key - 1) + 1) * (exQ e 0 * exQ k k) := by ac_rfl
          _ < d * U * sc2 := hns
          _ = exP d k k * sc2 * exQ e 0 := by rw [← hd2, Nat.mul_right_comm]
      have n1 : ¬ exC d k k (magV id 1 (2 * (key - 1) + 1)).1 (magV id 1 (2 * (key - 1) + 1)).2 0 < 0 := fun h => absurd (x1.1 h) (Nat.not_lt.2 (Nat.le_of_lt hlt))
      have n2 : ¬ exC d k k (magV id 1 (2 * (key - 1) + 1)).1 (magV id 1 (2 * (key - 1) + 1)).2 0 = 0 := fun h => absurd (x2.1 h) (Nat.ne_of_gt hlt)
      rw [hd, Bool.or_eq_true, decide_eq_true_eq]
      clear hlt x1 x2 hs a6 hXs m6 hns hg hlt0
      left; omega
    · have e1 : (limV id neg key).lowN = 0 := if_neg hF
      have hd0 : 0 < d := by
        rcases Nat.eq_zero_or_pos d with h | h
        · subst h
          have hU0 : 0 < U := hUd ▸ Nat.mul_pos hB hC'
          rw [Nat.zero_add, Nat.one_mul] at hhi
          have : 1 * U ≤ 10 ^ 20 * U := Nat.mul_le_mul_right _ (by decide)
          rw [Nat.one_mul] at this
          clear hs a6 hXs
          omega
        · exact h
      rw [e1, hd, exC_zero_r, cmpV_gt (a := (d : Int)) (b := 0) (by clear hs a6 hXs; omega)]
      rfl
  · by_cases hH : limH id neg key = true
    · have e1 : (limV id neg key).highN = (magV id 1 (2 * key + 1)).1 := if_pos hH
      have e2 : (limV id neg key).highT = (magV id 1 (2 * key + 1)).2 := if_pos hH
      obtain ⟨m1, -, -, -, m5, m6⟩ := mag_range (key := key) h1 h2 (by omega)
      obtain ⟨x1, x2⟩ := exC_wi (N := d) (t := k) (f := k) m5 m6
      rw [e1, e2, if_pos m1, hd]
      have hle : exP d k k * sc2 ≤ uN (fK id).toNat (fW id).toNat (fM id).toNat (fB id).toNat (2 * key) * exQ k k := by
        refine Nat.le_of_mul_le_mul_right ?_ hqe
        calc exP d k k * sc2 * exQ e 0 = d * U * sc2 := by rw [← hd2, Nat.mul_right_comm]
          _ ≤ X * sc2 := Nat.mul_le_mul_right _ hlo
          _ = uN (fK id).toNat (fW id).toNat (fM id).toNat (fB id).toNat (2 * key) * exQ k k * exQ e 0 := by rw [hXs]; ac_rfl
      have hlt : exP d k k * sc2 < uN (fK id).toNat (fW id).toNat (fM id).toNat (fB id).toNat (2 * key + 1) * exQ k k :=
        Nat.lt_of_le_of_lt hle (Nat.mul_lt_mul_of_pos_right (uN_lt h1 h2 (by clear hs a6 m6 x1 x2 hXs hle; omega) (by clear hs a6 m6 x1 x2 hXs hle; omega)) hq)
      rw [Bool.or_eq_true, decide_eq_true_eq]
      exact .inl (x1.2 hlt)
    · have e1 : (limV id neg key).highN = 0 := if_neg hH
      rw [e1]
      rfl
/-- What the document takes of two neighbours. -/
def dshV (one two : Bool) (rest : Int) (d : Nat) : Option Nat := if one = true ∧ (two = false ∨ rest < 2 ∨ (rest = 2 ∧ d % 2 = 0)) then some d else if two = true then some (d + 1) else none
theorem flR_bnd (m : Nat) (e k : Int) : flR m e k = 0 ∨ flR m e k = 1 ∨ flR m e k = 2 ∨ flR m e k = 3 := by
  unfold flR
  split
  · exact .inl rfl
  · rcases cmpV_cases ((2 * (flA m e k % flB e k) : Nat) : Int) ((flB e k : Nat) : Int) with ⟨_, h⟩ | ⟨_, h⟩ | ⟨_, h⟩ <;> rw [h] <;> simp
theorem dsh_nig (i : Itv) (m : Nat) (e k : Int) : nigV i m e k = dshV (itvHas i (flQ m e k) k) (decide (0 < flR m e k) && itvHas i (flQ m e k + 1) k) (flR m e k) (flQ m e k) := by
  have hb := flR_bnd m e k
  unfold nigV dshV
  generalize flR m e k = r at hb ⊢
  generalize flQ m e k = d
  cases itvHas i d k <;> cases itvHas i (d + 1) k <;> rcases hb with rfl | rfl | rfl | rfl <;> simp <;> (try split) <;> (try split) <;> first | rfl | omega | simp_all
/-- The code's search, where it ends. -/
theorem seekV_at {i : Itv} {m : Nat} {e : Int} {D : Nat} : ∀ (j f : Nat) (k : Int), j < f → (∀ t : Nat, t < j → nigV i m e (k - t) = none) → nigV i m e (k - j) = some D → seekV i m e f k = (D, k - j)
  | 0, f + 1, k, _, _, hD => by
    rw [show k - ((0 : Nat) : Int) = k by omega] at hD ⊢
    unfold seekV
    rw [hD]
  | j + 1, f + 1, k, hj, hn, hD => by
    have h0 := hn 0 (by omega)
    rw [show k - ((0 : Nat) : Int) = k by omega] at h0
    unfold seekV
    rw [h0]
    have := seekV_at j f (k - 1) (by omega) (fun t ht => by rw [show k - 1 - (t : Int) = k - ((t + 1 : Nat) : Int) by omega]; exact hn (t + 1) (by omega)) (by rw [show k - 1 - (j : Int) = k - ((j + 1 : Nat) : Int) by omega]; exact hD)
    rw [this, show k - 1 - (j : Int) = k - ((j + 1 : Nat) : Int) by omega]
  | _, 0, _, h, _, _ => by omega
end Go.Proofs.YtncfbleeidjflaaGreatDoor
namespace Go.Proofs.YtncfbleeidjflaaGreatDoor
open Go.RowKit Go.Cal
theorem exC_ge {N : Nat} {t k : Int} : ¬ exC N t 0 1 k k < 0 ↔ exP 1 k k * exQ t 0 ≤ exP N t 0 * exQ k k := by
  unfold exC
  rcases cmpV_cases ((exP N t 0 * exQ k k : Nat) : Int) ((exP 1 k k * exQ t 0 : Nat) : Int) with ⟨h, hv⟩ | ⟨h, hv⟩ | ⟨h, hv⟩
  · rw [hv]; constructor
    · intro h2; exact absurd (by decide) h2
    · intro h2; omega
  · rw [hv]; constructor
    · intro _; omega
    · intro _; decide
  · rw [hv]; constructor
    · intro _; omega
    · intro _; decide
theorem ten_down {N : Nat} {t k : Int} (z : Nat) (h : exP 1 (k + z) (k + z) * exQ t 0 ≤ exP N t 0 * exQ (k + z) (k + z)) : exP 1 k k * exQ t 0 ≤ exP N t 0 * exQ k k := by
  rw [ten_P, ten_Q, Nat.one_mul] at h ⊢
  have e := pow_shift 10 z k
  refine Nat.le_of_mul_le_mul_right ?_ (show 0 < 10 ^ (-(k + z)).toNat from Nat.pow_pos (by decide))
  have h1 : 10 ^ k.toNat * exQ t 0 ≤ 10 ^ z * (10 ^ k.toNat * exQ t 0) := Nat.le_mul_of_pos_left _ (Nat.pow_pos (by decide))
  calc 10 ^ k.toNat * exQ t 0 * 10 ^ (-(k + z)).toNat ≤ 10 ^ z * (10 ^ k.toNat * exQ t 0) * 10 ^ (-(k + z)).toNat := Nat.mul_le_mul_right _ h1
    _ = 10 ^ z * 10 ^ k.toNat * 10 ^ (-(k + z)).toNat * exQ t 0 := by ac_rfl
    _ = 10 ^ (k + z).toNat * exQ t 0 * 10 ^ (-k).toNat := by rw [← e]; ac_rfl
    _ ≤ exP N t 0 * 10 ^ (-(k + z)).toNat * 10 ^ (-k).toNat := Nat.mul_le_mul_right _ h
    _ = exP N t 0 * 10 ^ (-k).toNat * 10 ^ (-(k + z)).toNat := by ac_rfl
theorem seekL_end {N : Nat} {t : Int} (hN : 0 < N) : ∀ (f : Nat) (k kx : Int), k - kx < f → 0 < f → kx ≤ t → kx ≤ 0 → ¬ exC N t 0 1 (seekL N t f k) (seekL N t f k) < 0
  | 0, k, kx, _, h0, _, _ => by omega
  | f + 1, k, kx, hf, _, hx, hx0 => by
    unfold seekL
    by_cases hc : exC N t 0 1 k k < 0
    · rw [if_pos hc]
      have hk : kx < k := Classical.byContradiction fun h => exC_low hN (by omega) (by omega) hc
      exact seekL_end hN f (k - 1) kx (by omega) (by omega) hx hx0
    · rw [if_neg hc]
      exact hc
theorem lgV_end {N : Nat} {t : Int} (h0 : 0 < N) (hN : N < 2 ^ 64) (ht : -2000 ≤ t ∧ t ≤ 2000) : ¬ exC N t 0 1 (lgV N t) (lgV N t) < 0 := by
  obtain ⟨b1, b2⟩ := lgS_bnd hN ht
  exact seekL_end h0 (t := t) 6000 (lgS N t) (min t 0) (by omega) (by decide) (by omega) (by omega)
/-- There is one highest place. -/
theorem top_is {N : Nat} {t k : Int} (h0 : 0 < N) (hN : N < 2 ^ 64) (ht : -2000 ≤ t ∧ t ≤ 2000) (hk : -4000 ≤ k) (h1 : ¬ exC N t 0 1 k k < 0) (h2 : exC N t 0 1 (k + 1) (k + 1) < 0) : k = lgV N t := by
  have a := lgV_top hN ht hk (exC_ge.1 h1)
  have b := lgV_end h0 hN ht
  rcases Int.lt_or_eq_of_le a with h3 | h3
  · exfalso
    obtain ⟨z, hz⟩ : ∃ z : Nat, lgV N t = k + 1 + z := ⟨(lgV N t - (k + 1)).toNat, by omega⟩
    rw [hz] at b
    exact exC_ge.2 (ten_down z (exC_ge.1 b)) h2
  · exact h3
/-- Within twenty places there are digits that lie in the interval. -/
theorem short_in {id p : Int} {ng : Bool} {K mv : Nat} {ev : Int} (h : Fin id p ng K mv ev) {j : Nat} (hj : ∀ t : Nat, t < j → nigV (limV id ng K) mv ev (lgV mv ev - t) = none) : j ≤ 20 := by
  rcases Nat.lt_or_ge 20 j with h20 | h20
  · exfalso
    obtain ⟨hE, x2, hK0, -⟩ := h.lims
    obtain ⟨b1, b2, b3, b4⟩ := h.bnd
    have hn := hj 20 h20
    have hl := lgV_end b1 (by simpa using b2) ⟨b3, b4⟩
    have hm := h.mag
    have hi := itv_near (k := lgV mv ev - ((20 : Nat) : Int)) hE x2 hK0 (by
      rw [hm, show lgV mv ev - ((20 : Nat) : Int) + 20 = lgV mv ev by omega]
      exact exC_ge.1 hl)
    rw [hm] at hi
    rw [dsh_nig] at hn
    unfold dshV at hn
    rw [hi] at hn
    split at hn
    · cases hn
    · split at hn
      · cases hn
      · rename_i a b
        exact a ⟨rfl, .inl (by simpa using b)⟩
  · exact h20
/-- What the document finds is what the code finds. -/
theorem short_found {id p : Int} {ng : Bool} {K mv : Nat} {ev : Int} (h : Fin id p ng K mv ev) {j D : Nat} (hj : ∀ t : Nat, t < j → nigV (limV id ng K) mv ev (lgV mv ev - t) = none) (hD : nigV (limV id ng K) mv ev (lgV mv ev - j) = some D) (F : Nat) :
    shortV (limV id ng K) mv ev F = stripV F D (lgV mv ev - j) := by
  have h20 := short_in h hj
  unfold shortV
  rw [seekV_at j 3000 (lgV mv ev) (by omega) hj hD]
end Go.Proofs.YtncfbleeidjflaaGreatDoor
