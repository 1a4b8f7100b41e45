/- Plain: a magnitude's number as decimal text is rounded to that magnitude. Conditions: none. -/
import Derived.Test.YtdlkfnkmdlcekaaGreatDoorParR
namespace Go.Proofs.YtdlkfnkmdlcekaaGreatDoor
open Go.RowKit Go.Cal
theorem dec_lenH {u k : Nat} (hk : 1 ≤ k) (h : u < 10 ^ k) : (Lib.decDigits u).length ≤ k := (padd_dec k u hk h).2
theorem dec_lowH {u k : Nat} (h : 10 ^ k ≤ u) : k < (Lib.decDigits u).length := by
  have h1 := numV_lt (Lib.decDigits u) (dec_digs u)
  rw [numV_dec] at h1
  exact (Nat.pow_lt_pow_iff_right (a := 10) (by decide)).1 (Nat.lt_of_le_of_lt h h1)
/-- Digits of a number that is neither too large nor too small, as an item. -/
theorem item_mid (neg : Bool) (N : Nat) (K : Int) (hl : (Lib.decDigits N).length ≤ 1990) (h1 : 0 < N → ((Lib.decDigits N).length : Int) + K ≤ 1000) (h2 : 0 < N → -999 ≤ ((Lib.decDigits N).length : Int) + K) :
    ∃ d k, itemV neg (Lib.decDigits N) K = ⟨1, neg, d, k, 0, false⟩ ∧ ((N = 0 ∧ d = 0 ∧ k = 0) ∨ ∃ j : Nat, d * 10 ^ j = N ∧ k = K + j) := by
  rcases Nat.eq_zero_or_pos N with h0 | h0
  · subst h0
    refine ⟨0, 0, ?_, .inl ⟨rfl, rfl, rfl⟩⟩
    have : Lib.decDigits 0 = [48] := by decide +kernel
    rw [this]; rfl
  · have ha : trL (Lib.decDigits N) = Lib.decDigits N := trL_id (dec_head h0)
    obtain ⟨m, hm, hlen⟩ := trR_split (Lib.decDigits N)
    have hv : numV (trR (Lib.decDigits N)) * 10 ^ m = N := by
      rw [← numV_zerosR, ← hm, numV_dec]
    have h1 := h1 h0
    have h2 := h2 h0
    unfold itemV
    simp only [ha]
    rw [if_neg, if_neg (by omega), if_neg (by omega), if_neg (by omega)]
    · exact ⟨_, _, rfl, .inr ⟨m, hv, by omega⟩⟩
    · intro h
      rw [h] at hv
      have : numV [] = 0 := rfl
      rw [this] at hv; omega
/-- How m times 2 to the power of e is written: digits, and a power of ten. -/
def hasM (m : Nat) (e : Int) : Nat := if 0 ≤ e then m * 2 ^ e.toNat else m * 5 ^ (-e).toNat
def hasK (e : Int) : Int := if 0 ≤ e then 0 else e
def hasT (neg : Bool) (m : Nat) (e : Int) (how : Bool) : List UInt8 :=
  (if neg = true then [45] else []) ++ Lib.decDigits (hasM m e) ++ (if 0 ≤ e then (if how = true then [46, 48, 48] else [48, 101, 45, 49]) else if how = true then 101 :: numT e else [48, 48, 48] ++ 101 :: numT (e - 3))
theorem item_more {D : List UInt8} {neg : Bool} {N : Nat} (z : Nat) (k : Int) (hD : D = Lib.decDigits N) : itemV neg (D ++ List.replicate z 48) (k - z) = itemV neg D k := by
  subst hD
  rcases Nat.eq_zero_or_pos N with h0 | h0
  · subst h0
    have h48 : Lib.decDigits 0 = [48] := by decide +kernel
    rw [h48]
    have e1 : trL ([48] ++ List.replicate z 48) = [] := by
      have := trL_zeros (z + 1) []
      rw [List.replicate_succ, List.append_nil] at this
      exact this
    have e2 : trL [48] = [] := rfl
    refine itemV_eq (by rw [e1, e2]) (fun h => ?_)
    rw [e1] at h
    exact absurd rfl h
  · have ha : trL (Lib.decDigits N) = Lib.decDigits N := trL_id (dec_head h0)
    have hb : trL (Lib.decDigits N ++ List.replicate z 48) = Lib.decDigits N ++ List.replicate z 48 := by
      rw [trL_append (by rw [ha]; exact dec_ne N), ha]
    refine itemV_eq ?_ fun _ => ?_
    · rw [hb, ha]; exact trR_zeros z _
    · rw [hb, ha, List.length_append, List.length_replicate]; omega
theorem hasT_text (neg : Bool) (m : Nat) (e : Int) (how : Bool) (C : Nat) (h1 : 1 ≤ C) (hK : e.natAbs + 3 ≤ C) : (textS (hasT neg m e how)).1 = true ∧ textV C (hasT neg m e how) = itemV neg (Lib.decDigits (hasM m e)) (hasK e) := by
  unfold hasT hasK
  generalize hasM m e = N
  have hd := dec_digs N
  by_cases he : 0 ≤ e
  · rw [if_pos he, if_pos he]
    cases how with
    | true =>
      rw [if_pos rfl, List.append_assoc]
      obtain ⟨n1, n2, n3, n4⟩ := num_point (d := Lib.decDigits N) (d2 := [48, 48]) (r := []) hd (by decide) (.inl (dec_ne N)) ExpT.nil
      rw [List.append_nil] at n1 n2 n3 n4
      obtain ⟨t1, t2⟩ := text_sign neg n1 C
      rw [n2, n3, n4] at t2
      refine ⟨t1, t2.trans ?_⟩
      have := item_more (neg := neg) (N := N) 2 0 rfl
      exact this
    | false =>
      rw [if_neg (show ¬ (false = true) by decide), List.append_assoc]
      have hx : ExpT (101 :: numT (-1)) := expT_num (.inl rfl) (-1)
      have hn : numT (-1) = [45, 49] := by decide +kernel
      have hd1 : ∀ c ∈ Lib.decDigits N ++ [48], isDig c = true := dig_app hd (by decide)
      obtain ⟨n1, n2, n3, n4⟩ := num_plain (r := 101 :: numT (-1)) hd1 (by simp) hx
      obtain ⟨t1, t2⟩ := text_sign neg n1 C
      rw [n2, n3, n4, expV_num _ _ (by omega)] at t2
      rw [hn, List.append_assoc] at t1 t2
      refine ⟨t1, t2.trans ?_⟩
      have := item_more (neg := neg) (N := N) 1 0 rfl
      exact this
  · rw [if_neg he, if_neg he]
    cases how with
    | true =>
      rw [if_pos rfl]
      exact tenT_text neg N e C (by omega)
    | false =>
      rw [if_neg (show ¬ (false = true) by decide), List.append_assoc]
      have hd1 : ∀ c ∈ Lib.decDigits N ++ [48, 48, 48], isDig c = true := dig_app hd (by decide)
      obtain ⟨n1, n2, n3, n4⟩ := num_plain (r := 101 :: numT (e - 3)) hd1 (by simp) (expT_num (.inl rfl) (e - 3))
      obtain ⟨t1, t2⟩ := text_sign neg n1 C
      rw [n2, n3, n4, expV_num _ _ (by omega)] at t2
      rw [List.append_assoc] at t1 t2
      refine ⟨t1, t2.trans ?_⟩
      have := item_more (neg := neg) (N := N) 3 e rfl
      rw [show (e - 3 - ((0 : Nat) : Int)) = e - ((3 : Nat) : Int) by omega]
      exact this
/-- As a fraction it is m times 2 to the power of e. -/
theorem has_cross (m : Nat) (e : Int) : exP (hasM m e) (hasK e) (hasK e) * exQ e 0 = exP m e 0 * exQ (hasK e) (hasK e) := by
  rw [exP_ten, exQ_ten]
  unfold hasM hasK exP exQ
  by_cases he : 0 ≤ e
  · rw [if_pos he, if_pos he]
    rw [show (-e).toNat = 0 by omega]
    simp
  · rw [if_neg he, if_neg he]
    rw [show e.toNat = 0 by omega]
    simp only [Int.toNat_zero, Int.neg_zero, Nat.pow_zero, Nat.mul_one, Nat.one_mul]
    rw [← ten_pow, Nat.mul_assoc]
theorem five_low3 (a : Nat) : 10 ^ (a * 2 / 3) ≤ 5 ^ a := by
  have h0 : (10 : Nat) ^ 2 ≤ 5 ^ 3 := by decide
  have h1 : (10 ^ (a * 2 / 3)) ^ 3 ≤ (5 ^ a) ^ 3 := by
    rw [← Nat.pow_mul, ← Nat.pow_mul]
    calc 10 ^ (a * 2 / 3 * 3) ≤ 10 ^ (2 * a) := Nat.pow_le_pow_right (by decide) (by omega)
      _ = (10 ^ 2) ^ a := Nat.pow_mul 10 2 a
      _ ≤ (5 ^ 3) ^ a := Nat.pow_le_pow_left h0 a
      _ = 5 ^ (a * 3) := by rw [← Nat.pow_mul, Nat.mul_comm]
  exact (Nat.pow_le_pow_iff_left (by decide)).1 h1
theorem five_high5 (a : Nat) : 5 ^ a ≤ 10 ^ ((a * 7 + 9) / 10) := by
  have h0 : (5 : Nat) ^ 10 ≤ 10 ^ 7 := by decide
  have h1 : (5 ^ a) ^ 10 ≤ (10 ^ ((a * 7 + 9) / 10)) ^ 10 := by
    rw [← Nat.pow_mul, ← Nat.pow_mul]
    calc 5 ^ (a * 10) = (5 ^ 10) ^ a := by rw [← Nat.pow_mul, Nat.mul_comm]
      _ ≤ (10 ^ 7) ^ a := Nat.pow_le_pow_left h0 a
      _ = 10 ^ (7 * a) := by rw [← Nat.pow_mul]
      _ ≤ 10 ^ ((a * 7 + 9) / 10 * 10) := Nat.pow_le_pow_right (by decide) (by omega)
  exact (Nat.pow_le_pow_iff_left (by decide)).1 h1
/-- How many digits it has. -/
theorem has_len {m : Nat} {e : Int} (hm : m < 18446744073709551616) (he : -2000 ≤ e ∧ e ≤ 2000) :
    (Lib.decDigits (hasM m e)).length ≤ 1990 ∧ (0 < m → ((Lib.decDigits (hasM m e)).length : Int) + hasK e ≤ 1000) ∧ (0 < m → -999 ≤ ((Lib.decDigits (hasM m e)).length : Int) + hasK e) := by
  have h20 : (18446744073709551616 : Nat) ≤ 10 ^ 20 := by decide
  unfold hasM hasK
  by_cases h0 : 0 ≤ e
  · rw [if_pos h0, if_pos h0]
    have hp : 2 ^ e.toNat ≤ 10 ^ ((e.toNat + 2) / 3) := by
      have h8 : (2 : Nat) ^ 3 ≤ 10 := by decide
      calc 2 ^ e.toNat ≤ 2 ^ (3 * ((e.toNat + 2) / 3)) := Nat.pow_le_pow_right (by decide) (by omega)
        _ = (2 ^ 3) ^ ((e.toNat + 2) / 3) := Nat.pow_mul 2 3 _
        _ ≤ 10 ^ ((e.toNat + 2) / 3) := Nat.pow_le_pow_left h8 _
    have hlt : m * 2 ^ e.toNat < 10 ^ (20 + (e.toNat + 2) / 3) := by
      rw [Nat.pow_add]
      exact Nat.lt_of_lt_of_le (Nat.mul_lt_mul_of_pos_right hm (Nat.two_pow_pos _)) (Nat.mul_le_mul h20 hp)
    have := dec_lenH (by omega) hlt
    exact ⟨by omega, fun _ => by omega, fun _ => by omega⟩
  · rw [if_neg h0, if_neg h0]
    obtain ⟨a, ha⟩ : ∃ a, (-e).toNat = a := ⟨_, rfl⟩
    rw [ha]
    have hea : e = -(a : Int) := by omega
    have hp := five_high5 a
    have hq := five_low3 a
    have h5 : 0 < 5 ^ a := Nat.pow_pos (by decide)
    have hlt : m * 5 ^ a < 10 ^ (20 + (a * 7 + 9) / 10) := by
      rw [Nat.pow_add]
      exact Nat.lt_of_lt_of_le (Nat.mul_lt_mul_of_pos_right hm h5) (Nat.mul_le_mul h20 hp)
    have hl := dec_lenH (by omega) hlt
    refine ⟨by omega, fun _ => by omega, fun h => ?_⟩
    have hge : 10 ^ (a * 2 / 3) ≤ m * 5 ^ a := Nat.le_trans hq (Nat.le_mul_of_pos_left _ h)
    have := dec_lowH hge
    omega
/-- What Parse tells of it. -/
theorem par_has {id mode : Int} {neg : Bool} {m : Nat} {e : Int} (how : Bool) (hE : roundE id mode = 0) (hm : m < 18446744073709551616) (he : -2000 ≤ e ∧ e ≤ 2000) :
    parV id mode (hasT neg m e how) = (roundP id mode neg (exP m e 0) (exQ e 0), 0, 0) := by
  obtain ⟨a1, a2⟩ := hasT_text neg m e how 1125899906842624 (by decide) (by omega)
  obtain ⟨l1, l2, l3⟩ := has_len hm he
  have hz : 0 < hasM m e → 0 < m := by
    intro h
    rcases Nat.eq_zero_or_pos m with h0 | h0
    · subst h0; unfold hasM at h; simp at h
    · exact h0
  obtain ⟨d, k, hit, hc⟩ := item_mid neg (hasM m e) (hasK e) l1 (fun h => l2 (hz h)) (fun h => l3 (hz h))
  unfold parV
  rw [if_neg (by rw [hE]; decide), if_neg (by rw [a1]; decide), a2, hit]
  unfold parI
  rw [if_pos rfl]
  show (roundP id mode neg (exP d k k) (exQ k k), 0, 0) = _
  congr 1
  have h2 := has_cross m e
  rcases hc with ⟨h1, h3, h4⟩ | ⟨j, h3, h4⟩
  · subst h3; subst h4
    refine roundP_cross (exQ_pos _ _) (exQ_pos _ _) ?_
    have h5 : exP (hasM m e) (hasK e) (hasK e) = 0 := by rw [h1]; simp [exP]
    rw [h5, Nat.zero_mul] at h2
    have h6 : exP m e 0 = 0 := by
      rcases Nat.mul_eq_zero.1 h2.symm with h | h
      · exact h
      · have := exQ_pos (hasK e) (hasK e); omega
    rw [h6]; simp [exP]
  · subst h4
    exact (roundP_cross (exQ_pos _ _) (exQ_pos _ _) (ten_cross h3)).trans (roundP_cross (exQ_pos _ _) (exQ_pos _ _) h2)
end Go.Proofs.YtdlkfnkmdlcekaaGreatDoor
