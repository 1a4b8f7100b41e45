/- Plain: the pattern of a number, and its laws. Conditions: none. -/
/- Plain: a sign turns a number, of a form that has both signs alike. Conditions: none. -/
import Derived.Test.YtdlkfnkmdlcekaaGreatDoorFo02
import Derived.Test.YtdlkfnkmdlcekaaGreatDoorFo01
namespace Go.Cal
/-- Is a size P / Q to be rounded to a magnitude of a form, or a lesser one? -/
def wiF (id : Int) (P Q key : Nat) : Bool := wiN (fK id).toNat (fW id).toNat (fM id).toNat (fB id).toNat P Q key
/-- The magnitude of a size, where it is not too large. -/
def nearK (id : Int) (neg : Bool) (P Q : Nat) : Nat :=
  if fK id = 1 ∧ seek (wiF id P Q) (mostV id neg).toNat (fW id).toNat 0 = 0 ∧ P ≠ 0 then 1 else seek (wiF id P Q) (mostV id neg).toNat (fW id).toNat 0
def overB (id : Int) (neg : Bool) (P Q : Nat) : Bool := !wiF id P Q (mostV id neg).toNat
/-- The pattern of a number; what is wrong beside it. -/
def roundE (id mode : Int) : Int := if id < 1 ∨ 15 ≤ id then 3 else if mode ≠ 1 ∧ mode ≠ 2 then 1 else 0
def roundP (id mode : Int) (neg : Bool) (P Q : Nat) : Int :=
  if fK id = 4 ∧ (neg = true ∨ P = 0) then fN id
  else if overB id neg P Q = true then largeV id mode neg
  else patV id neg (nearK id neg P Q)
theorem fo_nat {id : Int} (h1 : 1 ≤ id) (h2 : id < 15) (neg : Bool) : (fB id).toNat ≤ 1900 ∧ (fB id).toNat + (fM id).toNat ≤ 1900 ∧ 2 ≤ (fW id).toNat ∧ (fW id).toNat ≤ 300 ∧ ((fK id).toNat = 1 ↔ fK id = 1) ∧ ((fK id).toNat = 1 → 2 * (mostV id neg).toNat + 1 < 2 ^ (fW id).toNat) ∧ (mostV id neg).toNat < 2 ^ (fW id).toNat := by
  rcases id_cases h1 h2 with rfl | rfl | rfl | rfl | rfl | rfl | rfl | rfl | rfl | rfl | rfl | rfl | rfl | rfl <;> cases neg <;> decide +kernel
theorem wiF_mono {id : Int} {neg : Bool} (h1 : 1 ≤ id) (h2 : id < 15) {P Q i j : Nat} (hq : 0 < Q) (h : i ≤ j) (hj : j ≤ (mostV id neg).toNat) (hi : wiF id P Q i = true) : wiF id P Q j = true := by
  obtain ⟨b1, _, b3, b4, _, b6, _⟩ := fo_nat h1 h2 neg
  exact wiN_mono hq (fun hk => ⟨by omega, b4, by have := b6 hk; omega⟩) b1 h hi
/-- The same number otherwise written is rounded alike. -/
theorem wiF_cross {id : Int} {P Q P' Q' : Nat} (hq : 0 < Q) (hq' : 0 < Q') (h : P * Q' = P' * Q) (key : Nat) : wiF id P Q key = wiF id P' Q' key := by
  unfold wiF wiN
  generalize uN (fK id).toNat (fW id).toNat (fM id).toNat (fB id).toNat (2 * key + 1) = u
  have hl : (P * sc2 < u * Q) ↔ (P' * sc2 < u * Q') := by
    have e1 : P * sc2 * Q' = P' * sc2 * Q := by rw [Nat.mul_right_comm, h, Nat.mul_right_comm]
    constructor
    · intro hh
      have h3 := Nat.mul_lt_mul_of_pos_right hh hq'
      rw [e1, Nat.mul_right_comm u] at h3
      exact Nat.lt_of_mul_lt_mul_right h3
    · intro hh
      have h3 := Nat.mul_lt_mul_of_pos_right hh hq
      rw [← e1, Nat.mul_right_comm u] at h3
      exact Nat.lt_of_mul_lt_mul_right h3
  have he : (P * sc2 = u * Q) ↔ (P' * sc2 = u * Q') := by
    have e1 : P * sc2 * Q' = P' * sc2 * Q := by rw [Nat.mul_right_comm, h, Nat.mul_right_comm]
    constructor
    · intro hh
      have h3 : P' * sc2 * Q = u * Q' * Q := by rw [← e1, hh, Nat.mul_right_comm]
      exact Nat.eq_of_mul_eq_mul_right hq h3
    · intro hh
      have h3 : P * sc2 * Q' = u * Q * Q' := by rw [e1, hh, Nat.mul_right_comm]
      exact Nat.eq_of_mul_eq_mul_right hq' h3
  simp only [hl, he]
theorem seek_cong {w1 w2 : Nat → Bool} (h : ∀ k, w1 k = w2 k) (most : Nat) : ∀ b key, seek w1 most b key = seek w2 most b key := by
  rw [show w1 = w2 from funext h]; intros; rfl
theorem roundP_cross {id mode : Int} {neg : Bool} {P Q P' Q' : Nat} (hq : 0 < Q) (hq' : 0 < Q') (h : P * Q' = P' * Q) : roundP id mode neg P Q = roundP id mode neg P' Q' := by
  have hw := wiF_cross (id := id) hq hq' h
  have hz : P = 0 ↔ P' = 0 := by
    constructor
    · intro h0
      rw [h0, Nat.zero_mul] at h
      rcases Nat.mul_eq_zero.1 h.symm with h3 | h3
      · exact h3
      · omega
    · intro h0
      rw [h0, Nat.zero_mul] at h
      rcases Nat.mul_eq_zero.1 h with h3 | h3
      · exact h3
      · omega
  have hs := fun m b k => seek_cong hw m b k
  unfold roundP overB nearK
  simp only [hw, hs, hz, ne_eq]
theorem nearK_le (id : Int) (neg : Bool) (P Q : Nat) : (nearK id neg P Q : Int) ≤ mostV id neg := by
  have hm := mostV_bnd id neg
  have hs := seek_le (wi := wiF id P Q) (most := (mostV id neg).toNat) (fW id).toNat 0 (Nat.zero_le _)
  unfold nearK
  split <;> omega
/-- A magnitude's own number is rounded to it. -/
theorem round_own {id mode : Int} {neg : Bool} {P Q key : Nat} (hE : mostE id neg = 0) (hq : 0 < Q) (hk : (key : Int) ≤ mostV id neg) (h0 : fK id = 4 ∨ 0 < key ∨ P = 0) (h4 : fK id = 4 → 0 < P)
    (hP : P * sc2 = uN (fK id).toNat (fW id).toNat (fM id).toNat (fB id).toNat (2 * key) * Q) : roundP id mode neg P Q = patV id neg key := by
  obtain ⟨h1, h2, h3⟩ := mostE_zero hE
  obtain ⟨b1, _, b3, b4, b5, b6, b7⟩ := fo_nat h1 h2 neg
  have hm := mostV_bnd id neg
  have up : ∀ i j, i < j → j ≤ 2 * (mostV id neg).toNat + 1 → uN (fK id).toNat (fW id).toNat (fM id).toNat (fB id).toNat i * Q < uN (fK id).toNat (fW id).toNat (fM id).toNat (fB id).toNat j * Q := fun i j hij hj =>
    Nat.mul_lt_mul_of_pos_right (uN_mono (fun hk => ⟨by omega, b4, by have := b6 hk; omega⟩) b1 hij) hq
  have ha0 : P * sc2 < uN (fK id).toNat (fW id).toNat (fM id).toNat (fB id).toNat (2 * key + 1) * Q := by
    have hu := up (2 * key) (2 * key + 1) (Nat.lt_succ_self _) (by clear hP; omega)
    rw [hP]
    exact hu
  have hl0 : ∀ i, i < key → uN (fK id).toNat (fW id).toNat (fM id).toNat (fB id).toNat (2 * i + 1) * Q < P * sc2 := by
    intro i hi
    have hu := up (2 * i + 1) (2 * key) (by clear hP ha0; omega) (by clear hP ha0; omega)
    rw [hP]
    exact hu
  clear hP
  have ha : wiF id P Q key = true := by
    unfold wiF wiN
    simp only [Bool.or_eq_true, decide_eq_true_eq]
    exact .inl ha0
  have hl : ∀ i, i < key → wiF id P Q i = false := by
    intro i hi
    have := hl0 i hi
    unfold wiF wiN
    simp only [Bool.or_eq_false_iff, Bool.and_eq_false_iff, decide_eq_false_iff_not]
    exact ⟨Nat.not_lt.2 (Nat.le_of_lt this), .inl (Nat.ne_of_gt this)⟩
  clear ha0 hl0
  have hmost : wiF id P Q (mostV id neg).toNat = true := wiF_mono (neg := neg) h1 h2 hq (by omega) (Nat.le_refl _) ha
  have hseek : seek (wiF id P Q) (mostV id neg).toNat (fW id).toNat 0 = key := by
    have hmo : ∀ i j, i ≤ j → (fun k => wiF id P Q (min k (mostV id neg).toNat)) i = true → (fun k => wiF id P Q (min k (mostV id neg).toNat)) j = true := fun i j hij hi =>
      wiF_mono (neg := neg) h1 h2 hq (by omega) (Nat.min_le_right _ _) hi
    have e : ∀ b k, k ≤ (mostV id neg).toNat → seek (wiF id P Q) (mostV id neg).toNat b k = seek (fun k => wiF id P Q (min k (mostV id neg).toNat)) (mostV id neg).toNat b k := by
      intro b
      induction b with
      | zero => intros; unfold seek; rfl
      | succ b ih =>
        intro k hk
        have hp := Nat.two_pow_pos b
        unfold seek
        by_cases hb : k + 2 ^ b ≤ (mostV id neg).toNat
        · rw [show min (k + 2 ^ b - 1) (mostV id neg).toNat = k + 2 ^ b - 1 by omega]
          refine ih _ ?_
          split <;> omega
        · rw [if_neg (fun hh => hb hh.1), if_neg (fun hh => hb hh.1)]
          exact ih _ hk
    rw [e _ _ (Nat.zero_le _)]
    refine seek_is hmo (by show wiF id P Q (min key _) = true; rw [Nat.min_eq_left (by omega)]; exact ha) (fun i hi => by show wiF id P Q (min i _) = false; rw [Nat.min_eq_left (by omega)]; exact hl i hi) (by omega) _ _ (Nat.zero_le _) (by omega)
  unfold roundP
  rw [if_neg (by
    rintro ⟨hk4, hn⟩
    rcases hn with hn | hn
    · exact h3 hn hk4
    · have := h4 hk4; omega), if_neg (by unfold overB; rw [hmost]; decide)]
  unfold nearK
  rw [hseek, if_neg (by
    rintro ⟨ha, hb, hc⟩
    rcases h0 with h0 | h0 | h0
    · omega
    · omega
    · exact hc h0)]
/-- What comes out is a pattern of the form, and the one for all that are alike. -/
theorem round_canon {id mode : Int} {neg : Bool} {P Q : Nat} (hE : roundE id mode = 0) : fitsV id (roundP id mode neg P Q) = 0 ∧ canonV id (roundP id mode neg P Q) = roundP id mode neg P Q := by
  have hid : 1 ≤ id ∧ id < 15 := by
    unfold roundE at hE
    split at hE
    · omega
    · omega
  unfold roundP
  by_cases h4 : fK id = 4 ∧ (neg = true ∨ P = 0)
  · rw [if_pos h4]
    obtain ⟨h1, h2⟩ := hid
    obtain ⟨h4, -⟩ := h4
    rcases id_cases h1 h2 with rfl | rfl | rfl | rfl | rfl | rfl | rfl | rfl | rfl | rfl | rfl | rfl | rfl | rfl <;> first | (exact absurd h4 (by decide)) | decide +kernel
  · have hm : mostE id neg = 0 := by
      unfold mostE
      rw [if_neg (by omega), if_neg (fun hh => h4 ⟨hh.2, .inl hh.1⟩)]
    rw [if_neg h4]
    split
    · exact large_canon hm
    · exact pat_canon hm (Int.natCast_nonneg _) (nearK_le id neg P Q)
/-- Modes differ just where a number is too large. -/
theorem round_modes {id : Int} {neg : Bool} {P Q : Nat} (h1 : 1 ≤ id) (h2 : id < 15) (hd : roundP id 1 neg P Q ≠ roundP id 2 neg P Q) :
    mostE id neg = 0 ∧ roundP id 1 neg P Q = patV id neg (mostV id neg) ∧ ((classV id (roundP id 2 neg P Q) = 3 ∧ partN id (roundP id 2 neg P Q) = neg) ∨ classV id (roundP id 2 neg P Q) = 4) := by
  unfold roundP at hd ⊢
  by_cases h4 : fK id = 4 ∧ (neg = true ∨ P = 0)
  · rw [if_pos h4, if_pos h4] at hd
    exact absurd rfl hd
  · have hm : mostE id neg = 0 := by
      unfold mostE
      rw [if_neg (by omega), if_neg (fun hh => h4 ⟨hh.2, .inl hh.1⟩)]
    simp only [if_neg h4] at hd ⊢
    by_cases ho : overB id neg P Q = true
    · simp only [if_pos ho] at hd ⊢
      exact ⟨hm, by unfold largeV; rw [if_pos (.inl rfl)], large_class hm hd⟩
    · simp only [if_neg ho] at hd
      exact absurd rfl hd
end Go.Cal
namespace Go.Cal
theorem near_sign {id : Int} (hk : fK id = 1 ∨ fK id = 2) (P Q : Nat) : mostV id true = mostV id false ∧ nearK id true P Q = nearK id false P Q ∧ overB id true P Q = overB id false P Q := by
  have hm : mostV id true = mostV id false := by
    unfold mostV
    rw [if_neg (by omega), if_neg (by omega)]
  refine ⟨hm, ?_, ?_⟩
  · unfold nearK; rw [hm]
  · unfold overB; rw [hm]
theorem round_flip_one {id mode : Int} (hk : fK id = 1) (P Q : Nat) : roundP id mode true P Q = (-roundP id mode false P Q) % 2 ^ (fW id).toNat := by
  obtain ⟨hm, hn, ho⟩ := near_sign (.inl hk) P Q
  have hx : ∀ n : Bool, ¬ (fK id = 4 ∧ (n = true ∨ P = 0)) := fun n h => by have := h.1; omega
  unfold roundP
  rw [if_neg (hx true), if_neg (hx false), hn, ho]
  split
  · unfold largeV
    rw [if_pos (.inr (.inl hk)), if_pos (.inr (.inl hk)), hm, pat_flip_one hk]
  · exact pat_flip_one hk
theorem round_flip_two {id mode : Int} (h1 : 1 ≤ id) (h2 : id < 15) (hk : fK id = 2) (P Q : Nat) :
    (fN id ≠ 0 ∧ roundP id mode false P Q = fN id ∧ roundP id mode true P Q = fN id) ∨
    (roundP id mode true P Q = roundP id mode false P Q + 2 ^ ((fW id).toNat - 1) ∧ 0 ≤ roundP id mode false P Q ∧ roundP id mode false P Q < 2 ^ ((fW id).toNat - 1) ∧ (fN id ≠ 0 → roundP id mode false P Q ≠ fN id)) := by
  obtain ⟨hm, hn, ho⟩ := near_sign (.inr hk) P Q
  have hle := nearK_le id false P Q
  have h0 : (0 : Int) ≤ nearK id false P Q := Int.natCast_nonneg _
  have hx : ∀ n : Bool, ¬ (fK id = 4 ∧ (n = true ∨ P = 0)) := fun n h => by have := h.1; omega
  unfold roundP
  rw [if_neg (hx true), if_neg (hx false), hn, ho]
  generalize nearK id false P Q = key at hle h0
  generalize (key : Int) = k at hle h0
  split
  · clear hle h0 hn ho hm
    unfold largeV
    rcases id_cases h1 h2 with rfl | rfl | rfl | rfl | rfl | rfl | rfl | rfl | rfl | rfl | rfl | rfl | rfl | rfl <;> simp [patV, mostV, fK, fW, fT, fN, fI] at hk ⊢ <;> (try split) <;> first | omega | (simp; done) | (simp; omega)
  · right
    clear hn ho hm
    rcases id_cases h1 h2 with rfl | rfl | rfl | rfl | rfl | rfl | rfl | rfl | rfl | rfl | rfl | rfl | rfl | rfl <;> simp [patV, mostV, fK, fW, fT, fN] at hk hle ⊢ <;> omega
end Go.Cal
