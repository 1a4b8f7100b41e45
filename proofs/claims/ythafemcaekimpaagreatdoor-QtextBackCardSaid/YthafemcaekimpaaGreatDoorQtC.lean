/- Plain: the whole text of a number is read as that number, by whatever power of two. Conditions: at most 2048 bits, powers up to 1200. -/
import Derived.Test.YthafemcaekimpaaGreatDoorQtA
import Derived.Test.YthafemcaekimpaaGreatDoorScanZ
import Derived.Test.YthafemcaekimpaaGreatDoorNatQ
namespace Go.Cal
open Go.Lib
theorem all48 {l : List UInt8} (h : ∀ c ∈ l, c = 48) : l = List.replicate l.length 48 := List.eq_replicate_of_mem h
theorem take48 (l : List UInt8) : l.takeWhile (· == 48) = List.replicate (l.takeWhile (· == 48)).length 48 := all48 fun c hc => by
  have := List.all_takeWhile (p := (· == (48 : UInt8))) (l := l)
  exact beq_iff_eq.1 (List.all_eq_true.1 this c hc)
theorem trL_split (l : List UInt8) : ∃ z, l = List.replicate z 48 ++ trL l :=
  ⟨(l.takeWhile (· == 48)).length, by unfold trL; rw [← take48]; exact List.takeWhile_append_dropWhile.symm⟩
theorem trR_split (l : List UInt8) : ∃ z, l = trR l ++ List.replicate z 48 := by
  refine ⟨(l.reverse.takeWhile (· == 48)).length, ?_⟩
  unfold trR
  have h := List.takeWhile_append_dropWhile (p := (· == (48 : UInt8))) (l := l.reverse)
  have h2 := congrArg List.reverse h
  rw [List.reverse_append, List.reverse_reverse, take48, List.reverse_replicate] at h2
  exact h2.symm
theorem numV_nil : numV [] = 0 := rfl
theorem numV_rep (z : Nat) : numV (List.replicate z 48) = 0 := by
  have := numV_zeros z []
  rwa [List.append_nil] at this
theorem numV_tail (l : List UInt8) (z : Nat) : numV (l ++ List.replicate z 48) = numV l * 10 ^ z := by
  rw [numV_append, numV_rep, List.length_replicate, Nat.add_zero]
theorem numV_padd : ∀ (k r : Nat), r < 10 ^ k → numV (padd k r) = r
  | 0, r, h => by
    have : r = 0 := by simpa using h
    subst this; rfl
  | k + 1, r, h => by
    rw [Nat.pow_succ] at h
    rw [padd, numV_snoc, numV_padd k (r / 10) (by omega), digit_toNat (by omega)]
    omega
theorem qfr_split (M f : Nat) : ∃ z, f = (qfr M f).length + z ∧ numV (decDigits (M / 10 ^ f) ++ qfr M f) * 10 ^ z = M := by
  obtain ⟨z, hz⟩ := trR_split (padd f (M % 10 ^ f))
  have hl := congrArg List.length hz
  rw [padd_length, List.length_append, List.length_replicate] at hl
  refine ⟨z, hl, ?_⟩
  have hr : M % 10 ^ f < 10 ^ f := Nat.mod_lt _ (Nat.pow_pos (by decide))
  rw [← numV_tail, List.append_assoc, show qfr M f ++ List.replicate z 48 = padd f (M % 10 ^ f) from hz.symm, numV_append, numV_padd _ _ hr, padd_length, numV_dec]
  exact Nat.div_add_mod' _ _
theorem qfr_digs (M f : Nat) : ∀ c ∈ qfr M f, isDig c = true := fun c hc => by
  have h1 : c ∈ padd f (M % 10 ^ f) := (trR_prefix _).subset hc
  have : ∀ k r, ∀ c ∈ padd k r, isDig c = true := by
    intro k
    induction k with
    | zero => intro r c hc; simp [padd] at hc
    | succ k ih =>
      intro r c hc
      rw [padd] at hc
      rcases List.mem_append.1 hc with h | h
      · exact ih _ c h
      · rw [List.mem_singleton.1 h]; exact isDig_ofNat (by omega)
  exact this _ _ c h1
/-- Of what form the whole text is. -/
theorem qtx_num (M f : Nat) : (numS (qtx M f)).1 = true ∧ numD (qtx M f) = decDigits (M / 10 ^ f) ++ qfr M f ∧ numB (qtx M f) = (qfr M f).length ∧ numR (qtx M f) = [] := by
  unfold qtx
  by_cases h : qfr M f = []
  · rw [if_pos h, h]
    have := num_plain (r := []) (dec_digs (M / 10 ^ f)) (dec_ne _) .nil
    simp only [List.append_nil, List.length_nil] at this ⊢
    exact this
  · rw [if_neg h]
    have := num_point (r := []) (dec_digs (M / 10 ^ f)) (qfr_digs M f) (.inl (dec_ne _)) .nil
    rw [List.append_nil] at this
    exact this
theorem qtx_item (neg : Bool) (M f C : Nat) : (textS ((if neg = true then [45] else []) ++ qtx M f)).1 = true ∧ textV C ((if neg = true then [45] else []) ++ qtx M f) = itemV neg (decDigits (M / 10 ^ f) ++ qfr M f) (-((qfr M f).length : Int)) := by
  obtain ⟨h1, h2, h3, h4⟩ := qtx_num M f
  cases neg
  · have := text_pos h1 C
    rw [h2, h3, h4] at this
    refine ⟨this.1, this.2.trans ?_⟩
    congr 1
    show (0 : Int) - _ = _
    omega
  · have := text_neg h1 C
    rw [h2, h3, h4] at this
    refine ⟨this.1, this.2.trans ?_⟩
    congr 1
    show (0 : Int) - _ = _
    omega
theorem itemV_zero (neg : Bool) (f : Nat) (k : Int) : itemV neg (decDigits (0 / 10 ^ f) ++ qfr 0 f) k = ⟨1, neg, 0, 0, 0, false⟩ := by
  have h1 : qfr 0 f = [] := by
    unfold qfr
    rw [Nat.zero_mod, padd_zero]
    have := trR_zeros f []
    rw [List.nil_append] at this
    rw [this]; rfl
  rw [h1, Nat.zero_div, show decDigits 0 = [48] by rw [dec_small (by decide)]; rfl]
  rfl
/-- The number that the digits are, with its power of ten. -/
theorem itemV_some (neg : Bool) (M f : Nat) (hM : 0 < M) (b1 : (decDigits (M / 10 ^ f)).length ≤ 1000) (b2 : 10 ^ (f - 1000) ≤ M) (b3 : (decDigits (M / 10 ^ f)).length + f ≤ 1990) :
    ∃ (d : Nat) (kk : Int), itemV neg (decDigits (M / 10 ^ f) ++ qfr M f) (-((qfr M f).length : Int)) = ⟨1, neg, d, kk, 0, false⟩ ∧ 0 ≤ kk + f ∧ d * 10 ^ (kk + f).toNat = M := by
  obtain ⟨z, hz, hv⟩ := qfr_split M f
  obtain ⟨D, hD⟩ : ∃ D, decDigits (M / 10 ^ f) ++ qfr M f = D := ⟨_, rfl⟩
  have hDl : D.length = (decDigits (M / 10 ^ f)).length + (qfr M f).length := by rw [← hD, List.length_append]
  have hdg : ∀ c ∈ D, isDig c = true := by rw [← hD]; exact dig_app (dec_digs _) (qfr_digs _ _)
  rw [hD] at hv ⊢
  obtain ⟨b, hb⟩ : ∃ b, (qfr M f).length = b := ⟨_, rfl⟩
  rw [hb] at hz hDl ⊢
  obtain ⟨z1, h1⟩ := trL_split D
  obtain ⟨z2, h2⟩ := trR_split (trL D)
  have e1 : numV D = numV (trL D) := by
    have := numV_zeros z1 (trL D)
    rw [← h1] at this
    exact this
  have e2 : numV (trL D) = numV (trR (trL D)) * 10 ^ z2 := by
    have := numV_tail (trR (trL D)) z2
    rw [← h2] at this
    exact this
  have l1 := congrArg List.length h1
  have l2 := congrArg List.length h2
  rw [List.length_append, List.length_replicate] at l1 l2
  have hne : trR (trL D) ≠ [] := fun h => by
    rw [e1, e2, h, numV_nil, Nat.zero_mul, Nat.zero_mul] at hv
    omega
  have hlow : b < (trL D).length + 1000 := by
    rcases Nat.lt_or_ge b ((trL D).length + 1000) with h | h
    · exact h
    · exfalso
      have hlt := Go.Proofs.YthafemcaekimpaaGreatDoor.numV_lt (trL D) (fun c hc => hdg c ((trL_suffix D).subset hc))
      rw [← e1] at hlt
      have h3 : M < 10 ^ ((trL D).length + z) := by
        rw [← hv, Nat.pow_add]
        exact Nat.mul_lt_mul_of_pos_right hlt (Nat.pow_pos (by decide))
      have h4 : 10 ^ ((trL D).length + z) ≤ 10 ^ (f - 1000) := Nat.pow_le_pow_right (by decide) (by omega)
      omega
  refine ⟨numV (trR (trL D)), -(b : Int) + (((trL D).length : Int) - ((trR (trL D)).length : Int)), ?_, by omega, ?_⟩
  · unfold itemV
    simp only
    rw [if_neg hne, if_neg (by omega), if_neg (by omega), if_neg (by omega)]
  · rw [show (-(b : Int) + (((trL D).length : Int) - ((trR (trL D)).length : Int)) + (f : Int)).toNat = z2 + z by omega, Nat.pow_add, ← Nat.mul_assoc, ← e2, ← e1, hv]
theorem pow_cancel {x y p n : Nat} (hp : 0 < p) (h : x * p ^ n = y * p ^ n) : x = y := Nat.eq_of_mul_eq_mul_right (Nat.pow_pos hp) h
/-- Fives out of it. -/
theorem qwh_five {d N : Nat} {kk e : Int} (h0 : 0 ≤ kk + qF e) (hm : d * 10 ^ (kk + qF e).toNat = qM N e) :
    ∃ m, (if 0 ≤ kk then some (d * 5 ^ kk.toNat) else qdv d (5 ^ (-kk).toNat)) = some m ∧ ((0 ≤ kk - e ∧ m * 2 ^ (kk - e).toNat = N) ∨ (kk - e < 0 ∧ m = N * 2 ^ (e - kk).toNat)) := by
  unfold qM qF at *
  by_cases he : 0 ≤ e
  · rw [if_pos he] at hm
    have hk : 0 ≤ kk := by omega
    rw [show (kk + ((-e).toNat : Int)).toNat = kk.toNat by omega] at hm
    rw [if_pos hk]
    refine ⟨_, rfl, ?_⟩
    have h1 : d * 5 ^ kk.toNat * 2 ^ kk.toNat = N * 2 ^ e.toNat := by rw [← hm, ten_pow, Nat.mul_assoc, Nat.mul_comm (5 ^ _)]
    by_cases hg : 0 ≤ kk - e
    · refine .inl ⟨hg, pow_cancel (p := 2) (n := e.toNat) (by decide) ?_⟩
      rw [Nat.mul_assoc, ← Nat.pow_add, show (kk - e).toNat + e.toNat = kk.toNat by omega]
      exact h1
    · refine .inr ⟨by omega, pow_cancel (p := 2) (n := kk.toNat) (by decide) ?_⟩
      rw [h1, Nat.mul_assoc, ← Nat.pow_add, show (e - kk).toNat + kk.toNat = e.toNat by omega]
  · rw [if_neg he] at hm
    by_cases hk : 0 ≤ kk
    · rw [if_pos hk]
      refine ⟨_, rfl, .inl ⟨by omega, pow_cancel (p := 5) (n := (-e).toNat) (by decide) ?_⟩⟩
      rw [← hm, ten_pow, show (kk + ((-e).toNat : Int)).toNat = (kk - e).toNat by omega]
      have : 5 ^ (kk - e).toNat = 5 ^ kk.toNat * 5 ^ (-e).toNat := by rw [← Nat.pow_add, show kk.toNat + (-e).toNat = (kk - e).toNat by omega]
      rw [this]
      ac_rfl
    · rw [if_neg hk]
      have h1 : d * 2 ^ (kk - e).toNat = N * 5 ^ (-kk).toNat := by
        refine pow_cancel (p := 5) (n := (kk - e).toNat) (by decide) ?_
        have e1 : 5 ^ (-e).toNat = 5 ^ (-kk).toNat * 5 ^ (kk - e).toNat := by rw [← Nat.pow_add, show (-kk).toNat + (kk - e).toNat = (-e).toNat by omega]
        rw [show (kk + ((-e).toNat : Int)).toNat = (kk - e).toNat by omega, ten_pow, e1, ← Nat.mul_assoc, ← Nat.mul_assoc] at hm
        exact hm
      have hc : Nat.Coprime (5 ^ (-kk).toNat) (2 ^ (kk - e).toNat) := Nat.Coprime.pow _ _ (by decide)
      have hd : 5 ^ (-kk).toNat ∣ d := hc.dvd_of_dvd_mul_right ⟨N, by rw [h1, Nat.mul_comm]⟩
      obtain ⟨m, rfl⟩ := hd
      have hp : 0 < 5 ^ (-kk).toNat := Nat.pow_pos (by decide)
      refine ⟨m, by unfold qdv; rw [if_pos (Nat.mul_mod_right _ _), Nat.mul_div_cancel_left _ hp], .inl ⟨by omega, ?_⟩⟩
      refine Nat.eq_of_mul_eq_mul_right hp ?_
      rw [← h1]
      ac_rfl
theorem qdv_mul (m a b : Nat) : qdv (m * 2 ^ a) (2 ^ (a + b)) = qdv m (2 ^ b) := by
  unfold qdv
  have hp : 0 < 2 ^ a := Nat.two_pow_pos a
  rw [Nat.pow_add, Nat.mul_comm m, Nat.mul_mod_mul_left, Nat.mul_div_mul_left _ _ hp]
  simp only [Nat.mul_eq_zero]
  simp
theorem qdv_all (m a b : Nat) : qdv (m * 2 ^ (a + b)) (2 ^ a) = some (m * 2 ^ b) := by
  unfold qdv
  have hp : 0 < 2 ^ a := Nat.two_pow_pos a
  have e : m * 2 ^ (a + b) = m * 2 ^ b * 2 ^ a := by rw [Nat.pow_add, Nat.mul_assoc, Nat.mul_comm (2 ^ b)]
  rw [e, Nat.mul_mod_left, if_pos rfl, Nat.mul_div_cancel _ hp]
/-- What Parse makes of it, by whatever power of two. -/
theorem qwh_of {d N : Nat} {kk e : Int} (h0 : 0 ≤ kk + qF e) (hm : d * 10 ^ (kk + qF e).toNat = qM N e) (e' : Int) :
    qwh d kk e' = if e' ≤ e then some (N * 2 ^ (e - e').toNat) else qdv N (2 ^ (e' - e).toNat) := by
  obtain ⟨m, h1, h2⟩ := qwh_five h0 hm
  unfold qwh
  rw [h1]
  show (if 0 ≤ kk - e' then some (m * 2 ^ (kk - e').toNat) else qdv m (2 ^ (-(kk - e')).toNat)) = _
  rcases h2 with ⟨hg, rfl⟩ | ⟨hg, rfl⟩
  · by_cases ht : 0 ≤ kk - e'
    · rw [if_pos ht]
      by_cases he : e' ≤ e
      · rw [if_pos he, Nat.mul_assoc, ← Nat.pow_add, show (kk - e).toNat + (e - e').toNat = (kk - e').toNat by omega]
      · rw [if_neg he, show (kk - e).toNat = (e' - e).toNat + (kk - e').toNat by omega, qdv_all]
    · rw [if_neg ht, if_neg (by omega), show (e' - e).toNat = (kk - e).toNat + (-(kk - e')).toNat by omega, qdv_mul]
  · by_cases ht : 0 ≤ kk - e'
    · rw [if_pos ht, if_pos (by omega), Nat.mul_assoc, ← Nat.pow_add, show (e - kk).toNat + (kk - e').toNat = (e - e').toNat by omega]
    · rw [if_neg ht]
      by_cases he : e' ≤ e
      · rw [if_pos he, show (e - kk).toNat = (-(kk - e')).toNat + (e - e').toNat by omega, qdv_all]
      · rw [if_neg he, show (-(kk - e')).toNat = (e - kk).toNat + (e' - e).toNat by omega, qdv_mul]
theorem dec_len {u k : Nat} (hk : 1 ≤ k) (h : u < 10 ^ k) : (decDigits u).length ≤ k := (padd_dec k u hk h).2
theorem qM_pos {N : Nat} (h : 0 < N) (e : Int) : 0 < qM N e := by
  unfold qM
  split
  · exact Nat.mul_pos h (Nat.two_pow_pos _)
  · exact Nat.mul_pos h (Nat.pow_pos (by decide))
theorem qM_zero (e : Int) : qM 0 e = 0 := by unfold qM; split <;> simp
def qPow (b n : Nat) : Nat := b ^ n
theorem qPow_le {b m n : Nat} (hb : 0 < b) (h : m ≤ n) : qPow b m ≤ qPow b n := Nat.pow_le_pow_right hb h
def qT : Nat := qPow 2 1200
theorem qT_pos : 0 < qT := by decide +kernel
theorem qT_le {n : Nat} (h : n ≤ 1200) : 2 ^ n ≤ qT := qPow_le (by decide) h
theorem qB_978 : qB * qT ≤ 10 ^ 978 := by decide +kernel
theorem qB_617 : qB ≤ 10 ^ 617 := by unfold qB; decide +kernel
theorem qB_pos : 0 < qB := by unfold qB; decide +kernel
/-- How long the text's parts are. -/
theorem qM_bnd {N : Nat} {e : Int} (hN : N < qB) (he : ¬ qfar e) (h0 : 0 < N) : (decDigits (qM N e / 10 ^ qF e)).length ≤ 1000 ∧ 10 ^ (qF e - 1000) ≤ qM N e ∧ (decDigits (qM N e / 10 ^ qF e)).length + qF e ≤ 1990 := by
  unfold qfar at he
  by_cases h : 0 ≤ e
  · have hf : qF e = 0 := by unfold qF; omega
    have hM : qM N e < 10 ^ 978 := by
      unfold qM
      rw [if_pos h]
      have h1 : N * 2 ^ e.toNat < qB * qT := Nat.mul_lt_mul_of_lt_of_le hN (qT_le (by omega)) qT_pos
      exact Nat.lt_of_lt_of_le h1 qB_978
    have hl := dec_len (k := 978) (by decide) hM
    have := qM_pos h0 e
    rw [hf, Nat.pow_zero, Nat.div_one]
    omega
  · have hf1 : 1 ≤ qF e ∧ qF e ≤ 1200 := by unfold qF; omega
    have hMe : qM N e = N * 5 ^ qF e := by unfold qM qF; rw [if_neg h]
    have hq : qM N e / 10 ^ qF e < 10 ^ 617 := by
      have h1 : qM N e / 10 ^ qF e ≤ N := by
        rw [hMe]
        refine Nat.div_le_of_le_mul ?_
        rw [Nat.mul_comm]
        exact Nat.mul_le_mul_right _ (Nat.pow_le_pow_left (by decide) _)
      exact Nat.lt_of_le_of_lt h1 (Nat.lt_of_lt_of_le hN qB_617)
    have hl := dec_len (k := 617) (by decide) hq
    refine ⟨by omega, ?_, by omega⟩
    rw [hMe]
    rcases Nat.lt_or_ge (qF e) 1000 with h2 | h2
    · rw [show qF e - 1000 = 0 by omega, Nat.pow_zero]
      exact Nat.mul_pos h0 (Nat.pow_pos (by decide))
    · have h3 : 10 ^ (qF e - 1000) ≤ 10 ^ 200 := Nat.pow_le_pow_right (by decide) (by omega)
      have h4 : qPow 5 1000 ≤ 5 ^ qF e := qPow_le (by decide) h2
      have h5 : 10 ^ 200 ≤ qPow 5 1000 := by decide +kernel
      have h6 : 1 * 5 ^ qF e ≤ N * 5 ^ qF e := Nat.mul_le_mul_right _ h0
      exact Nat.le_trans h3 (Nat.le_trans h5 (Nat.le_trans h4 (by omega)))
theorem qsg_if (neg : Bool) (N : Nat) : qsg neg N = if (neg && decide (N ≠ 0)) = true then [45] else [] := by
  unfold qsg
  simp
theorem qwh_zero (e : Int) : qwh 0 0 e = some 0 := by
  unfold qwh qdv
  simp
/-- What is told is read: by whatever power of two. -/
theorem qP_qS (neg : Bool) {N : Nat} {e e' : Int} (hN : N < qB) (he : ¬ qfar e) (he' : ¬ qfar e') :
    qP (qS neg N e) e' = match (if e' ≤ e then some (N * 2 ^ (e - e').toNat) else qdv N (2 ^ (e' - e).toNat)) with
      | none => (8, false, 0)
      | some m => if m < qB then (0, neg && decide (m ≠ 0), m) else (4, false, 0) := by
  obtain ⟨t1, t2⟩ := qtx_item (neg && decide (N ≠ 0)) (qM N e) (qF e) 1125899906842624
  unfold qP qS
  rw [qsg_if, if_neg he', t2]
  rcases Nat.eq_zero_or_pos N with rfl | h0
  · rw [qM_zero] at *
    rw [itemV_zero, if_neg (by rw [t1]; simp), if_neg (by simp)]
    simp only [qwh_zero]
    have hr : (if e' ≤ e then some (0 * 2 ^ (e - e').toNat) else qdv 0 (2 ^ (e' - e).toNat)) = some 0 := by
      unfold qdv; simp
    rw [hr]
    simp [qB_pos]
  · obtain ⟨b1, b2, b3⟩ := qM_bnd hN he h0
    obtain ⟨d, kk, h1, h2, h3⟩ := itemV_some (neg && decide (N ≠ 0)) (qM N e) (qF e) (qM_pos h0 e) b1 b2 b3
    rw [h1, if_neg (by rw [t1]; simp), if_neg (by simp)]
    simp only [qwh_of h2 h3 e']
    generalize hr : (if e' ≤ e then some (N * 2 ^ (e - e').toNat) else qdv N (2 ^ (e' - e).toNat)) = r
    cases r with
    | none => rfl
    | some m =>
      have hnz : m ≠ 0 := by
        have hp := Nat.two_pow_pos (e - e').toNat
        split at hr
        · injection hr with hm
          rw [← hm]
          exact Nat.ne_of_gt (Nat.mul_pos h0 hp)
        · unfold qdv at hr
          split at hr
          · rename_i hq
            injection hr with hm
            rw [← hm]
            intro h4
            have := Nat.div_add_mod N (2 ^ (e' - e).toNat)
            rw [hq, h4] at this
            simp at this
            omega
          · cases hr
      have hd : decide (N ≠ 0) = true := decide_eq_true (Nat.ne_of_gt h0)
      simp [hd, hnz]
end Go.Cal
