/- Plain: bounds of what is told; texts that are one number. Conditions: none. -/
import Derived.Test.YtjhdkdfiadlmcaaGreatDoorScanY
import Derived.Test.YtjhdkdfiadlmcaaGreatDoorScanN
namespace Go.Cal
theorem trLR_head {l : List UInt8} (h : trR (trL l) ≠ []) : (trR (trL l)).head? ≠ some 48 := by
  obtain ⟨s, hs⟩ := trR_prefix (trL l)
  have h1 := trL_head l
  rw [← hs] at h1
  match hb : trR (trL l), h with
  | c :: r, _ =>
    rw [hb] at h1
    simpa using h1
theorem trLR_digs {l : List UInt8} (hd : ∀ c ∈ l, isDig c = true) : ∀ c ∈ trR (trL l), isDig c = true := fun c hc =>
  hd c ((trL_suffix l).subset ((trR_prefix _).subset hc))
theorem one_digit {l : List UInt8} (h : l.head? ≠ some 48) : l.head? = some 48 → l.length = 1 := fun e => absurd e h
/-- The bounds of a number. -/
structure Bnd (x : Item) (neg : Bool) : Prop where
  neg : x.neg = neg
  zero : x.d = 0 → x.k = 0 ∧ x.cut = false ∧ (x.kind = 1 ∨ x.big = 0)
  kind : 1 ≤ x.kind ∧ x.kind ≤ 4
  some : x.d ≠ 0 → x.kind = 1 ∧ x.big = 0 ∧ ∃ r c, Lib.decDigits x.d = r ++ [c] ∧ c ≠ 48 ∧ r.length + 1 ≤ 1991 ∧ (r.length + 1 = 1991 ↔ x.cut = true) ∧ (r.length : Int) + 1 + x.k ≤ 1000 ∧ -1000 < (r.length : Int) + 1 + x.k
theorem snoc_of {l : List UInt8} (h : l ≠ []) : ∃ r c, l = r ++ [c] := ⟨l.dropLast, l.getLast h, (List.dropLast_concat_getLast h).symm⟩
theorem itemV_bnd (neg : Bool) (ds : List UInt8) (hd : ∀ c ∈ ds, isDig c = true) (k : Int) : Bnd (itemV neg ds k) neg := by
  have hb1 := trLR_digs hd
  have hb2 := trR_last (trL ds)
  have hb3 := trLR_head (l := ds)
  unfold itemV
  simp only
  generalize trR (trL ds) = b at hb1 hb2 hb3
  generalize k + (((trL ds).length : Int) - (b.length : Int)) = k1
  by_cases h0 : b = []
  · rw [if_pos h0]
    exact ⟨rfl, fun _ => ⟨rfl, rfl, .inl rfl⟩, ⟨by show 1 ≤ 1; omega, by show 1 ≤ 4; omega⟩, fun h => absurd rfl h⟩
  · rw [if_neg h0]
    have h3 := hb3 h0
    by_cases h1 : 1000 ≤ (b.length : Int) + k1 - 1
    · rw [if_pos h1]
      exact ⟨rfl, fun _ => ⟨rfl, rfl, .inl rfl⟩, ⟨by show 1 ≤ 1; omega, by show 1 ≤ 4; omega⟩, fun h => absurd rfl h⟩
    · rw [if_neg h1]
      by_cases h2 : (b.length : Int) + k1 - 1 < -1000
      · rw [if_pos h2]
        exact ⟨rfl, fun _ => ⟨rfl, rfl, .inl rfl⟩, ⟨by show 1 ≤ 1; omega, by show 1 ≤ 4; omega⟩, fun h => absurd rfl h⟩
      · rw [if_neg h2]
        by_cases h4 : 1990 < b.length
        · rw [if_pos h4]
          have hh : (b.take 1990 ++ [49]).head? ≠ some 48 := by
            match b, h0, h3 with
            | c :: r, _, h3 => simpa using h3
          have hdec : Lib.decDigits (numV (b.take 1990 ++ [49])) = b.take 1990 ++ [49] := dec_numV (by simp) (fun c hc => by
            rcases List.mem_append.1 hc with h | h
            · exact hb1 c (List.mem_of_mem_take h)
            · rw [List.mem_singleton.1 h]; decide) (one_digit hh)
          have hl : (b.take 1990).length = 1990 := by rw [List.length_take]; omega
          refine ⟨rfl, fun e => ?_, ⟨by show 1 ≤ 1; omega, by show 1 ≤ 4; omega⟩, fun _ => ⟨rfl, rfl, _, _, hdec, by decide, ?_, ?_, ?_, ?_⟩⟩
          · have e' : numV (b.take 1990 ++ [49]) = 0 := e
            rw [e', dec_small (by decide)] at hdec
            have := congrArg List.length hdec
            rw [List.length_append, hl] at this
            simp at this
          · omega
          · rw [hl]; simp
          · show _ + 1 + (k1 + ((b.length : Int) - 1991)) ≤ 1000
            rw [hl]; omega
          · show _ < _ + 1 + (k1 + ((b.length : Int) - 1991))
            rw [hl]; omega
        · rw [if_neg h4]
          have hdec : Lib.decDigits (numV b) = b := dec_numV h0 hb1 (one_digit h3)
          obtain ⟨r, c, hrc⟩ := snoc_of h0
          have hl : b.length = r.length + 1 := by rw [hrc, List.length_append]; rfl
          have hc : c ≠ 48 := fun e => hb2 (by rw [hrc, e]; simp)
          refine ⟨rfl, fun e => ?_, ⟨by show 1 ≤ 1; omega, by show 1 ≤ 4; omega⟩, fun _ => ⟨rfl, rfl, r, c, hdec.trans hrc, hc, by omega, ?_, ?_, ?_⟩⟩
          · have e' : numV b = 0 := e
            rw [e', dec_small (by decide)] at hdec
            rw [← hdec] at h3
            exact absurd rfl h3
          · show _ ↔ false = true
            simp; omega
          · show _ + 1 + k1 ≤ 1000
            omega
          · show _ < _ + 1 + k1
            omega
theorem wordK_le (t : List UInt8) : wordK t ≤ 4 := by
  unfold wordK
  split
  · omega
  · split
    · omega
    · split <;> omega
theorem bodyV_bnd (C : Nat) (neg : Bool) (t : List UInt8) : Bnd (bodyV C neg t) neg := by
  have h4 := wordK_le t
  unfold bodyV
  by_cases h : wordK t ≠ 0
  · rw [if_pos h]
    exact ⟨rfl, fun _ => ⟨rfl, rfl, .inr rfl⟩, ⟨by show 1 ≤ wordK t; omega, h4⟩, fun h => absurd rfl h⟩
  · rw [if_neg h]
    exact itemV_bnd _ _ (numD_digs t) _
/-- What is told is within what may be. -/
theorem textV_bnd (C : Nat) (l : List UInt8) : Bnd (textV C l) (l.head? == some 45) := by
  unfold textV
  split
  · exact bodyV_bnd C true _
  · rename_i hne
    have : (l.head? == some 45) = false := by
      match l, hne with
      | [], _ => rfl
      | c :: r, hne =>
        have : c ≠ 45 := fun e => hne r (by rw [e])
        simpa using this
    rw [this]
    exact bodyV_bnd C false l
/-- A number as text. -/
def numT (n : Int) : List UInt8 := if n < 0 then 45 :: Lib.decDigits n.natAbs else Lib.decDigits n.natAbs
theorem expT_num {e : UInt8} (he : e = 101 ∨ e = 69) (n : Int) : ExpT (e :: numT n) := by
  unfold numT
  split
  · exact ExpT.sign he (.inr rfl) (dec_digs _) (dec_ne _)
  · exact ExpT.plain he (dec_digs _) (dec_ne _)
theorem expV_num {C : Nat} (e : UInt8) (n : Int) (h : n.natAbs ≤ C) : expV C (e :: numT n) = n := by
  unfold numT
  split
  · rw [expV_less (dec_digs _), numV_dec]
    omega
  · rw [expV_plain (dec_digs _) (dec_ne _), numV_dec]
    omega
theorem dig_cons {c : UInt8} {l : List UInt8} (h : isDig c = true) (hl : ∀ x ∈ l, isDig x = true) : ∀ x ∈ c :: l, isDig x = true := fun x hx => by
  rcases List.mem_cons.1 hx with rfl | hx
  · exact h
  · exact hl x hx
/-- Digits, the last one no nought. -/
theorem trL_same (S : List UInt8) : trL (S ++ [55]) ≠ [] := by
  intro h
  have := trL_all h
  have h2 : (55 : UInt8) ∈ List.replicate (S ++ [55]).length 48 := by rw [← this]; simp
  exact absurd (List.eq_of_mem_replicate h2) (by decide)
theorem trLR_same (S : List UInt8) : trR (trL (S ++ [55])) = trL (S ++ [55]) := trR_self (by
  obtain ⟨p, hp⟩ := trL_suffix (S ++ [55])
  have h0 := trL_same S
  obtain ⟨r, c, hrc⟩ := snoc_of h0
  rw [hrc] at hp ⊢
  have : c = 55 := by
    have e := congrArg List.getLast? hp
    rw [← List.append_assoc] at e
    simpa using e
  rw [this]; simp)
theorem trL_more (S : List UInt8) (m : Nat) : trL (S ++ [55] ++ List.replicate m 48) = trL (S ++ [55]) ++ List.replicate m 48 := trL_append (trL_same S)
/-- The digits, noughts behind them. -/
theorem item_same (S : List UInt8) (z m : Nat) (k : Int) : itemV false (List.replicate z 48 ++ (S ++ [55] ++ List.replicate m 48)) (k - m) = itemV false (S ++ [55]) k := by
  refine itemV_eq ?_ fun _ => ?_
  · rw [trL_zeros, trL_more, trR_zeros]
  · rw [trL_zeros, trL_more, List.length_append, List.length_replicate]
    omega
theorem item_same0 (S : List UInt8) (z : Nat) (k : Int) : itemV false (List.replicate z 48 ++ (S ++ [55])) k = itemV false (S ++ [55]) k := by
  refine itemV_eq ?_ fun _ => ?_
  · rw [trL_zeros]
  · rw [trL_zeros]
theorem numT_small (n : Int) (h : n.natAbs ≤ 1000000) : n.natAbs ≤ 1125899906842624 := by omega
def C50 : Nat := 1125899906842624
section Same
variable (S : List UInt8) (hS : ∀ c ∈ S, isDig c = true)
include hS
theorem same_digs : ∀ c ∈ S ++ [55], isDig c = true := dig_app hS (by decide)
theorem same_a (C : Nat) (x : Int) (h : x.natAbs ≤ C) : (textS (S ++ [55] ++ 101 :: numT x)).1 = true ∧ textV C (S ++ [55] ++ 101 :: numT x) = itemV false (S ++ [55]) x := by
  obtain ⟨n1, n2, n3, n4⟩ := num_plain (same_digs S hS) (by simp) (expT_num (.inl rfl) x)
  obtain ⟨t1, t2⟩ := text_pos n1 C
  refine ⟨t1, ?_⟩
  rw [t2, n2, n3, n4, expV_num _ _ h]
  congr 1
  omega
theorem same_b (C z m : Nat) (x : Int) (h : (x - m).natAbs ≤ C) : (textS (List.replicate z 48 ++ (S ++ [55] ++ List.replicate m 48) ++ 46 :: ([] ++ 101 :: numT (x - m)))).1 = true ∧ textV C (List.replicate z 48 ++ (S ++ [55] ++ List.replicate m 48) ++ 46 :: ([] ++ 101 :: numT (x - m))) = itemV false (S ++ [55]) x := by
  obtain ⟨n1, n2, n3, n4⟩ := num_point (d := List.replicate z 48 ++ (S ++ [55] ++ List.replicate m 48)) (d2 := []) (dig_app (dig_zero z) (dig_app (same_digs S hS) (dig_zero m))) (by simp) (.inl (by simp)) (expT_num (e := 101) (.inl rfl) (x - m))
  obtain ⟨t1, t2⟩ := text_pos n1 C
  refine ⟨t1, ?_⟩
  rw [t2, n2, n3, n4, expV_num _ _ h, List.append_nil, ← item_same S z m x]
  congr 1
  simp
theorem same_c (C m : Nat) (x : Int) (h : (x + m + (S ++ [55]).length).natAbs ≤ C) : (textS ([48] ++ 46 :: (List.replicate m 48 ++ (S ++ [55]) ++ 69 :: numT (x + m + (S ++ [55]).length)))).1 = true ∧ textV C ([48] ++ 46 :: (List.replicate m 48 ++ (S ++ [55]) ++ 69 :: numT (x + m + (S ++ [55]).length))) = itemV false (S ++ [55]) x := by
  obtain ⟨n1, n2, n3, n4⟩ := num_point (d := [48]) (d2 := List.replicate m 48 ++ (S ++ [55])) (by decide) (dig_app (dig_zero m) (same_digs S hS)) (.inl (by simp)) (expT_num (e := 69) (.inr rfl) (x + m + (S ++ [55]).length))
  obtain ⟨t1, t2⟩ := text_pos n1 C
  refine ⟨t1, ?_⟩
  rw [t2, n2, n3, n4, expV_num _ _ h, ← item_same0 S (m + 1) x]
  have e : [48] ++ (List.replicate m 48 ++ (S ++ [55])) = List.replicate (m + 1) 48 ++ (S ++ [55]) := by rw [List.replicate_succ]; rfl
  rw [e]
  congr 1
  rw [List.length_append («as» := List.replicate m 48), List.length_replicate]
  omega
theorem same_d (C m : Nat) (x : Int) (h : (x + (S ++ [55]).length).natAbs ≤ C) : (textS ([] ++ 46 :: ((S ++ [55] ++ List.replicate m 48) ++ 101 :: numT (x + (S ++ [55]).length)))).1 = true ∧ textV C ([] ++ 46 :: ((S ++ [55] ++ List.replicate m 48) ++ 101 :: numT (x + (S ++ [55]).length))) = itemV false (S ++ [55]) x := by
  obtain ⟨n1, n2, n3, n4⟩ := num_point (d := []) (d2 := S ++ [55] ++ List.replicate m 48) (by simp) (dig_app (same_digs S hS) (dig_zero m)) (.inr (by simp)) (expT_num (e := 101) (.inl rfl) (x + (S ++ [55]).length))
  obtain ⟨t1, t2⟩ := text_pos n1 C
  refine ⟨t1, ?_⟩
  rw [t2, n2, n3, n4, expV_num _ _ h, ← item_same S 0 m x]
  show itemV false ([] ++ _) _ = itemV false ([] ++ _) _
  congr 1
  rw [List.length_append (bs := List.replicate m 48), List.length_replicate]
  omega
omit hS in
theorem same_is (x : Int) (hS1 : S.length ≤ 100) : (itemV false (S ++ [55]) x).kind = 1 ∧ ((itemV false (S ++ [55]) x).big ≠ 0 ∨ (itemV false (S ++ [55]) x).k = x) := by
  have h1 := trL_same S
  have h2 := trLR_same S
  have h3 : (trL (S ++ [55])).length ≤ 101 := by
    have := (trL_suffix (S ++ [55])).length_le
    rw [List.length_append] at this
    simp at this
    omega
  unfold itemV
  simp only [h2]
  rw [if_neg h1]
  split
  · exact ⟨rfl, .inl (by decide)⟩
  · split
    · exact ⟨rfl, .inl (by decide)⟩
    · rw [if_neg (by omega)]
      exact ⟨rfl, .inr (by show x + _ = x; omega)⟩
end Same
/-- An exponent with noughts ahead. -/
theorem numV_zeros (z : Nat) (l : List UInt8) : numV (List.replicate z 48 ++ l) = numV l := by
  induction z with
  | zero => rfl
  | succ z ih => rw [List.replicate_succ, List.cons_append]; unfold numV at ih ⊢; rw [List.foldl_cons]; exact ih
section Case
variable (W P : List UInt8) (hW : ∀ c ∈ W, isDig c = true) (hP : ∀ c ∈ P, isDig c = true)
include hW hP
theorem case_num (C : Nat) (r : List UInt8) (hr : ExpT r) : (textS ((W ++ [48]) ++ 46 :: (P ++ r))).1 = true ∧ textV C ((W ++ [48]) ++ 46 :: (P ++ r)) = itemV false (W ++ [48] ++ P) (expV C r - (P.length : Int)) := by
  obtain ⟨n1, n2, n3, n4⟩ := num_point (d := W ++ [48]) (d2 := P) (dig_app hW (by decide)) hP (.inl (by simp)) hr
  obtain ⟨t1, t2⟩ := text_pos n1 C
  refine ⟨t1, ?_⟩
  rw [t2, n2, n3, n4]
theorem case_wide (C : Nat) (r : List UInt8) (hr : ExpT r) : (textS (([48, 48] ++ (W ++ [48])) ++ 46 :: ((P ++ [48, 48]) ++ r))).1 = true ∧ textV C (([48, 48] ++ (W ++ [48])) ++ 46 :: ((P ++ [48, 48]) ++ r)) = itemV false (W ++ [48] ++ P) (expV C r - (P.length : Int)) := by
  obtain ⟨n1, n2, n3, n4⟩ := num_point (d := [48, 48] ++ (W ++ [48])) (d2 := P ++ [48, 48]) (dig_app (by decide) (dig_app hW (by decide))) (dig_app hP (by decide)) (.inl (by simp)) hr
  obtain ⟨t1, t2⟩ := text_pos n1 C
  refine ⟨t1, ?_⟩
  rw [t2, n2, n3, n4]
  have e : [48, 48] ++ (W ++ [48]) ++ (P ++ [48, 48]) = List.replicate 2 48 ++ ((W ++ [48] ++ P) ++ List.replicate 2 48) := by simp [List.replicate]
  rw [e]
  by_cases h0 : trL (W ++ [48] ++ P) = []
  · have h1 : trL (List.replicate 2 48 ++ ((W ++ [48] ++ P) ++ List.replicate 2 48)) = [] := by
      rw [trL_zeros, trL_all h0, List.replicate_append_replicate]
      have := trL_zeros ((W ++ [48] ++ P).length + 2) []
      rw [List.append_nil] at this
      exact this
    refine itemV_eq (by rw [h0, h1]) fun h => ?_
    rw [h1] at h
    exact absurd rfl h
  · refine itemV_eq ?_ fun _ => ?_
    · rw [trL_zeros, trL_append h0, trR_zeros]
    · rw [trL_zeros, trL_append h0, List.length_append («as» := trL (W ++ [48] ++ P)), List.length_append («as» := P), List.length_replicate]
      simp
      omega
omit hW hP
theorem exp_plus {C : Nat} (z : Nat) (x : Nat) (h : x ≤ C) : ExpT (69 :: 43 :: (List.replicate z 48 ++ Lib.decDigits x)) ∧ expV C (69 :: 43 :: (List.replicate z 48 ++ Lib.decDigits x)) = x := by
  have hd := dig_app (dig_zero z) (dec_digs x)
  refine ⟨ExpT.sign (.inr rfl) (.inl rfl) hd (by simp [dec_ne]), ?_⟩
  rw [expV_plus hd, numV_zeros, numV_dec]
  omega
theorem exp_low {C : Nat} (z : Nat) (x : Nat) (h : x ≤ C) : ExpT (101 :: (List.replicate z 48 ++ Lib.decDigits x)) ∧ expV C (101 :: (List.replicate z 48 ++ Lib.decDigits x)) = x := by
  have hd := dig_app (dig_zero z) (dec_digs x)
  refine ⟨ExpT.plain (.inl rfl) hd (by simp [dec_ne]), ?_⟩
  rw [expV_plain hd (by simp [dec_ne]), numV_zeros, numV_dec]
  omega
theorem exp_less {C : Nat} {e : UInt8} (he : e = 101 ∨ e = 69) (z : Nat) (x : Nat) (h : x ≤ C) : ExpT (e :: 45 :: (List.replicate z 48 ++ Lib.decDigits x)) ∧ expV C (e :: 45 :: (List.replicate z 48 ++ Lib.decDigits x)) = -(x : Int) := by
  have hd := dig_app (dig_zero z) (dec_digs x)
  refine ⟨ExpT.sign he (.inr rfl) hd (by simp [dec_ne]), ?_⟩
  rw [expV_less hd, numV_zeros, numV_dec]
  omega
theorem item_kind (ds : List UInt8) (k : Int) : (itemV false ds k).kind = 1 := by
  unfold itemV
  simp only
  split
  · rfl
  · split
    · rfl
    · split
      · rfl
      · split <;> rfl
end Case
end Go.Cal
