/- Plain: digits, and a power of ten behind an e, as text: the number that it tells. Conditions: none. -/
import Derived.Test.YtdlkfnkmdlcekaaGreatDoorFo31
import Derived.Test.YtdlkfnkmdlcekaaGreatDoorFo03
namespace Go.Proofs.YtdlkfnkmdlcekaaGreatDoor
open Go.RowKit Go.Cal
theorem trL_id {l : List UInt8} (h : l.head? ≠ some 48) : trL l = l := by
  unfold trL
  cases l with
  | nil => rfl
  | cons c r =>
    have : (c == 48) = false := by simp; intro e; subst e; exact h rfl
    rw [List.dropWhile_cons, this]; rfl
theorem numV_zerosR (l : List UInt8) (m : Nat) : numV (l ++ List.replicate m 48) = numV l * 10 ^ m := by
  have h0 : numV (List.replicate m 48) = 0 := by
    have := numV_zeros m []
    rw [List.append_nil] at this
    rw [this]; rfl
  rw [numV_append, h0, List.length_replicate, Nat.add_zero]
theorem trR_split (l : List UInt8) : ∃ m, l = trR l ++ List.replicate m 48 ∧ m + (trR l).length = l.length := by
  have h : ∀ r : List UInt8, ∃ m, r = List.replicate m 48 ++ r.dropWhile (· == 48) := by
    intro r
    induction r with
    | nil => exact ⟨0, rfl⟩
    | cons c r ih =>
      by_cases hc : c = 48
      · subst hc
        obtain ⟨m, hm⟩ := ih
        refine ⟨m + 1, ?_⟩
        have hd : List.dropWhile (· == 48) ((48 : UInt8) :: r) = List.dropWhile (· == 48) r := rfl
        rw [List.replicate_succ, List.cons_append, hd, ← hm]
      · refine ⟨0, ?_⟩
        have hd : (c == 48) = false := by simpa using hc
        rw [List.dropWhile_cons, hd]; rfl
  obtain ⟨m, hm⟩ := h l.reverse
  have hl : l = trR l ++ List.replicate m 48 := by
    have := congrArg List.reverse hm
    rw [List.reverse_reverse, List.reverse_append, List.reverse_replicate] at this
    exact this
  refine ⟨m, hl, ?_⟩
  have := congrArg List.length hl
  rw [List.length_append, List.length_replicate] at this
  omega
/-- Digits of a number, as an item: the number, by tens. -/
theorem item_ten (neg : Bool) (N : Nat) (K : Int) (hl : (Lib.decDigits N).length ≤ 1990) :
    ∃ d k big, itemV neg (Lib.decDigits N) K = ⟨1, neg, d, k, big, false⟩ ∧ (big = 1 ∨ big = -1 ∨ (big = 0 ∧ ((N = 0 ∧ d = 0 ∧ k = 0) ∨ ∃ j : Nat, d * 10 ^ j = N ∧ k = K + j))) := by
  rcases Nat.eq_zero_or_pos N with h0 | h0
  · subst h0
    refine ⟨0, 0, 0, ?_, .inr (.inr ⟨rfl, .inl ⟨rfl, rfl, rfl⟩⟩)⟩
    have : Lib.decDigits 0 = [48] := by decide +kernel
    rw [this]; rfl
  · have ha : trL (Lib.decDigits N) = Lib.decDigits N := trL_id (dec_head h0)
    obtain ⟨m, hm, hlen⟩ := trR_split (Lib.decDigits N)
    have hv : numV (trR (Lib.decDigits N)) * 10 ^ m = N := by
      rw [← numV_zerosR, ← hm, numV_dec]
    unfold itemV
    simp only [ha]
    split
    · rename_i h
      rw [h] at hv
      exfalso
      have : numV [] = 0 := rfl
      rw [this] at hv; omega
    · split
      · exact ⟨0, 0, 1, rfl, .inl rfl⟩
      · split
        · exact ⟨0, 0, -1, rfl, .inr (.inl rfl)⟩
        · split
          · omega
          · exact ⟨_, _, 0, rfl, .inr (.inr ⟨rfl, .inr ⟨m, hv, by omega⟩⟩)⟩
theorem ten_pow (K : Nat) : 5 ^ K * 2 ^ K = 10 ^ K := by rw [← Nat.mul_pow]
theorem exP_ten (N : Nat) (K : Int) : exP N K K = N * 10 ^ K.toNat := by unfold exP; rw [Nat.mul_assoc, ten_pow]
theorem exQ_ten (K : Int) : exQ K K = 10 ^ (-K).toNat := by unfold exQ; rw [ten_pow]
theorem ten_cross {N d j : Nat} {K : Int} (h : d * 10 ^ j = N) : exP d (K + j) (K + j) * exQ K K = exP N K K * exQ (K + j) (K + j) := by
  rw [exP_ten, exP_ten, exQ_ten, exQ_ten, ← h, Nat.mul_assoc, Nat.mul_assoc, Nat.mul_assoc, ← Nat.pow_add, ← Nat.pow_add, ← Nat.pow_add]
  congr 2
  omega
/-- The two texts. -/
def tenT (neg : Bool) (N : Nat) (K : Int) : List UInt8 := (if neg = true then [45] else []) ++ Lib.decDigits N ++ 101 :: numT K
def tenU (neg : Bool) (N : Nat) (K : Int) : List UInt8 := (if neg = true then [45] else []) ++ Lib.decDigits N ++ [48, 48, 48] ++ 69 :: numT K
theorem text_sign {t : List UInt8} (neg : Bool) (h : (numS t).1 = true) (C : Nat) : (textS ((if neg = true then [45] else []) ++ t)).1 = true ∧ textV C ((if neg = true then [45] else []) ++ t) = itemV neg (numD t) (expV C (numR t) - (numB t : Int)) := by
  cases neg with
  | true => exact text_neg h C
  | false => exact text_pos h C
theorem tenT_text (neg : Bool) (N : Nat) (K : Int) (C : Nat) (hK : K.natAbs ≤ C) : (textS (tenT neg N K)).1 = true ∧ textV C (tenT neg N K) = itemV neg (Lib.decDigits N) K := by
  obtain ⟨n1, n2, n3, n4⟩ := num_plain (r := 101 :: numT K) (dec_digs N) (dec_ne N) (expT_num (.inl rfl) K)
  have := text_sign neg n1 C
  rw [n2, n3, n4, expV_num _ _ hK] at this
  unfold tenT
  rw [List.append_assoc]
  simpa using this
theorem tenU_text (neg : Bool) (N : Nat) (K : Int) (C : Nat) (hK : (K - 3).natAbs ≤ C) : (textS (tenU neg N (K - 3))).1 = true ∧ textV C (tenU neg N (K - 3)) = itemV neg (Lib.decDigits N) K := by
  have hd : ∀ c ∈ Lib.decDigits N ++ [48, 48, 48], isDig c = true := dig_app (dec_digs N) (by decide)
  obtain ⟨n1, n2, n3, n4⟩ := num_plain (r := 69 :: numT (K - 3)) hd (by simp) (expT_num (.inr rfl) (K - 3))
  have := text_sign neg n1 C
  rw [n2, n3, n4, expV_num _ _ hK] at this
  have he : itemV neg (Lib.decDigits N ++ [48, 48, 48]) (K - 3 - ((0 : Nat) : Int)) = itemV neg (Lib.decDigits N) K := by
    rcases Nat.eq_zero_or_pos N with h0 | h0
    · subst h0
      have : Lib.decDigits 0 = [48] := by decide +kernel
      rw [this]
      exact itemV_eq rfl (fun h => absurd rfl h)
    · have ha : trL (Lib.decDigits N) = Lib.decDigits N := trL_id (dec_head h0)
      have hb : trL (Lib.decDigits N ++ [48, 48, 48]) = Lib.decDigits N ++ [48, 48, 48] := by
        rw [trL_append (by rw [ha]; exact dec_ne N), ha]
      refine itemV_eq ?_ fun _ => ?_
      · rw [hb, ha]; exact trR_zeros 3 _
      · rw [hb, ha, List.length_append]; simp; omega
  rw [he] at this
  unfold tenU
  rw [List.append_assoc, List.append_assoc]
  rw [List.append_assoc] at this
  exact this
/-- What Parse tells of both, and what Round tells of the number. -/
theorem par_ten {id mode K : Int} {neg : Bool} {N : Nat} (hK : -900 ≤ K ∧ K ≤ 900) (hl : (Lib.decDigits N).length ≤ 1990) :
    parV id mode (tenU neg N (K - 3)) = parV id mode (tenT neg N K) ∧ ((textV 1125899906842624 (tenT neg N K)).kind = 1 ∧ (textV 1125899906842624 (tenT neg N K)).neg = neg) ∧
    (((textV 1125899906842624 (tenT neg N K)).big ≠ 0) ∨ ((textV 1125899906842624 (tenT neg N K)).big = 0 ∧ parV id mode (tenT neg N K) = (if roundE id mode ≠ 0 then 0 else roundP id mode neg (exP N K K) (exQ K K), 0, roundE id mode))) := by
  obtain ⟨a1, a2⟩ := tenT_text neg N K 1125899906842624 (by omega)
  obtain ⟨b1, b2⟩ := tenU_text neg N K 1125899906842624 (by omega)
  obtain ⟨d, k, big, hit, hb⟩ := item_ten neg N K hl
  refine ⟨?_, ?_, ?_⟩
  · unfold parV
    rw [a1, b1, a2, b2]
    have hn : ¬ (true = false) := by decide
    by_cases hE : roundE id mode ≠ 0
    · rw [if_pos hE, if_pos hE]
    · rw [if_neg hE, if_neg hE, if_neg hn, if_neg hn]
  · rw [a2, hit]; exact ⟨rfl, rfl⟩
  · rw [a2, hit]
    rcases hb with h | h | ⟨h, hc⟩
    · left; show big ≠ 0; omega
    · left; show big ≠ 0; omega
    · right
      refine ⟨h, ?_⟩
      unfold parV
      by_cases hE : roundE id mode ≠ 0
      · rw [if_pos hE, if_pos hE]
      · have hE0 : roundE id mode = 0 := Classical.byContradiction hE
        rw [if_neg hE, if_neg hE, if_neg (by rw [a1]; decide), a2, hit]
        unfold parI
        rw [if_pos rfl]
        subst h
        show (roundP id mode neg (exP d k k) (exQ k k), 0, 0) = _
        rw [hE0]
        congr 1
        refine roundP_cross (exQ_pos _ _) (exQ_pos _ _) ?_
        rcases hc with ⟨h1, h2, h3⟩ | ⟨j, h1, h2⟩
        · subst h1; subst h2
          simp [exP]
        · subst h2
          exact ten_cross h1
end Go.Proofs.YtdlkfnkmdlcekaaGreatDoor
