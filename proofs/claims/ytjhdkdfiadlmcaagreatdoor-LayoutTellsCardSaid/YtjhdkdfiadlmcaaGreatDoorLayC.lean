/- Plain: what is written is read as it is; unlike digits have unlike texts; what Scan makes of them. Conditions: none. -/
import Derived.Test.YtjhdkdfiadlmcaaGreatDoorLayB
import Derived.Test.YtjhdkdfiadlmcaaGreatDoorScanN
namespace Go.Cal
open Go.Lib
theorem trL_self {l : List UInt8} (h : l.head? ≠ some 48) : trL l = l := by
  match l with
  | [] => rfl
  | c :: r => exact List.dropWhile_cons_of_neg (by simpa using h)
structure Dgt (d : Nat) (k : Int) : Prop where
  pos : 0 < d
  ten : d % 10 ≠ 0
  len : (decDigits d).length ≤ 2000
  lo : -5000 ≤ k
  hi : k ≤ 5000
theorem DRight.cases {d : Nat} {k : Int} (h : DRight d k) : (d = 0 ∧ k = 0) ∨ Dgt d k := by
  rcases h with h | ⟨h1, h2, h3, h4, h5⟩
  · exact .inl h
  · exact .inr ⟨h1, h2, h3, h4, h5⟩
theorem Dgt.right {d : Nat} {k : Int} (h : Dgt d k) : DRight d k := .inr ⟨h.pos, h.ten, h.len, h.lo, h.hi⟩
theorem Dgt.parts {d : Nat} {k : Int} (h : Dgt d k) : ∃ pt ex W P k0 a b, LyP (decDigits d) k pt ex W P k0 a b := lyB_parts (dec_ne d) h.len ⟨h.lo, h.hi⟩
theorem Dgt.trim {d : Nat} {k : Int} (h : Dgt d k) (a b : Nat) : trL (List.replicate a 48 ++ (decDigits d ++ List.replicate b 48)) = decDigits d ++ List.replicate b 48 ∧ trR (decDigits d ++ List.replicate b 48) = decDigits d := by
  have h1 : trL (decDigits d) = decDigits d := trL_self (dec_head h.pos)
  refine ⟨?_, ?_⟩
  · rw [trL_zeros, trL_append (by rw [h1]; exact dec_ne d), h1]
  · rw [trR_zeros, trR_self (dec_last h.ten)]
theorem Dgt.ok {d : Nat} {k : Int} (h : Dgt d k) : pOkL (decDigits d) = true := by
  have h1 : (decDigits d).isEmpty = false := by simpa using dec_ne d
  have h2 : ((decDigits d).head? == some 48) = false := by simpa using dec_head h.pos
  have h3 : (decDigits d).all isDig = true := List.all_eq_true.2 (dec_digs d)
  unfold pOkL
  rw [h1, h2, h3, decide_eq_true h.len]
  rfl
theorem powS_num {k : Int} (h : -10000 ≤ k ∧ k ≤ 10000) : powS (numT k) = some k := by
  unfold powS
  rw [atoi_num (by omega)]
  show (if _ then some k else none) = _
  rw [if_pos (by omega)]
theorem LyP.cut {S W P : List UInt8} {k k0 : Int} {pt ex : Bool} {a b : Nat} (h : LyP S k pt ex W P k0 a b) (hd : ∀ c ∈ S, isDig c = true) : candA (lyB S k) = some k0 ∧ candD (lyB S k) = (W, P) := by
  have hW := h.digW hd
  have hP := h.digP hd
  have hA : (101 : UInt8) ∉ W ++ (if pt = true then 46 :: P else []) := by
    intro hc
    rcases List.mem_append.1 hc with hc | hc
    · exact dig_no hW (by decide) hc
    · split at hc
      · rcases List.mem_cons.1 hc with hc | hc
        · exact absurd hc (by decide)
        · exact dig_no hP (by decide) hc
      · cases hc
  have h1 : cutC 101 (lyB S k) = (W ++ (if pt = true then 46 :: P else []), (if ex = true then numT k0 else []), ex) := by
    rw [h.eq, ← List.append_assoc]
    cases ex
    · have e1 : (if false = true then (101 : UInt8) :: numT k0 else []) = [] := rfl
      have e2 : (if false = true then numT k0 else []) = [] := rfl
      rw [e1, e2, List.append_nil]
      exact cutC_none hA
    · have e1 : (if true = true then (101 : UInt8) :: numT k0 else []) = 101 :: numT k0 := rfl
      have e2 : (if true = true then numT k0 else []) = numT k0 := rfl
      rw [e1, e2]
      exact cutC_some hA
  have h2 : cutC 46 (W ++ (if pt = true then 46 :: P else [])) = (W, P, pt) := by
    cases hp : pt
    · rw [if_neg (by simp), List.append_nil, h.np hp]
      exact cutC_none (dig_no hW (by decide))
    · rw [if_pos rfl]
      exact cutC_some (dig_no hW (by decide))
  refine ⟨?_, ?_⟩
  · unfold candA
    rw [h1]
    cases he : ex
    · rw [if_neg (by simp), h.ne he]
    · rw [if_pos rfl]
      exact powS_num h.lo
  · unfold candD
    rw [h1]
    simp only
    rw [h2]
theorem candB_lyB {d : Nat} {k : Int} (h : Dgt d k) : candB (lyB (decDigits d) k) = some (d, k) := by
  obtain ⟨pt, ex, W, P, k0, a, b, hp⟩ := h.parts
  obtain ⟨h1, h2⟩ := hp.cut (dec_digs d)
  obtain ⟨t1, t2⟩ := h.trim a b
  unfold candB
  rw [h1, h2]
  show (if trR (trL (W ++ P)) = [] then _ else _) = _
  rw [hp.all, t1, t2, if_neg (dec_ne d), if_pos h.ok, numV_dec, List.length_append, List.length_replicate]
  have := hp.kk
  have e : k0 + ((((decDigits d).length + b : Nat) : Int) - ((decDigits d).length : Int) - (P.length : Int)) = k := by omega
  rw [← e]
theorem lyS_pos {d : Nat} (h : 0 < d) (k : Int) : lyS d k = lyB (decDigits d) k := by unfold lyS; rw [if_neg (by omega)]
theorem candB_lyS {d : Nat} {k : Int} (h : DRight d k) : candB (lyS d k) = some (d, k) := by
  rcases h.cases with ⟨rfl, rfl⟩ | h
  · decide
  · rw [lyS_pos h.pos]; exact candB_lyB h
theorem lyS_head {d : Nat} {k : Int} (h : DRight d k) : ∃ c r, lyS d k = c :: r ∧ isDig c = true := by
  rcases h.cases with ⟨rfl, rfl⟩ | h
  · exact ⟨48, [], rfl, rfl⟩
  · obtain ⟨pt, ex, W, P, k0, a, b, hp⟩ := h.parts
    rw [lyS_pos h.pos, hp.eq]
    match W, hp.w, hp.digW (dec_digs d) with
    | c :: r, _, hd => exact ⟨c, _, rfl, hd c (by simp)⟩
theorem unT_lyT {d : Nat} {k : Int} (neg : Bool) (h : DRight d k) : unT (lyT neg d k) = (lyS d k, neg) := by
  unfold lyT
  cases neg
  · rw [if_neg (by simp), List.nil_append]
    obtain ⟨c, r, e, hc⟩ := lyS_head h
    refine unT_dig fun c' r' e' => ?_
    rw [e] at e'
    injection e' with e1 e2
    rw [← e1]
    exact (not_dig hc).1
  · rfl
/-- What is written is read as it is. -/
theorem unS_lyT {d : Nat} {k : Int} (neg : Bool) (h : DRight d k) : unS (lyT neg d k) = some (neg, d, k) := by
  unfold unS
  rw [unT_lyT neg h]
  simp only
  rw [candB_lyS h]
  simp only
  rw [if_pos ⟨h, trivial⟩]
theorem unS_nil : unS [] = none := by decide
theorem unS_some {l : List UInt8} {neg : Bool} {d : Nat} {k : Int} (h : unS l = some (neg, d, k)) : DRight d k ∧ lyT neg d k = l := by
  unfold unS at h
  match hc : candB (unT l).1 with
  | none => rw [hc] at h; cases h
  | some (d', k') =>
    rw [hc] at h
    simp only at h
    split at h
    · rename_i hh
      injection h with h
      injection h with h1 h2
      injection h2 with h2 h3
      subst h1 h2 h3
      exact hh
    · cases h
/-- Unlike digits have unlike texts. -/
theorem lyT_inj {n1 n2 : Bool} {d1 d2 : Nat} {k1 k2 : Int} (h1 : DRight d1 k1) (h2 : DRight d2 k2) (h : lyT n1 d1 k1 = lyT n2 d2 k2) : n1 = n2 ∧ d1 = d2 ∧ k1 = k2 := by
  have e1 := unS_lyT n1 h1
  have e2 := unS_lyT n2 h2
  rw [h, e2] at e1
  injection e1 with e1
  injection e1 with a1 a2
  injection a2 with a2 a3
  exact ⟨a1.symm, a2.symm, a3.symm⟩
theorem lyT_ne {d : Nat} {k : Int} (neg : Bool) (h : DRight d k) : lyT neg d k ≠ [] := by
  obtain ⟨c, r, e, _⟩ := lyS_head h
  unfold lyT
  rw [e]
  simp
/-- How long a text is. -/
theorem lyT_len {d : Nat} {k : Int} (neg : Bool) (h : DRight d k) : (lyT neg d k).length ≤ 12100 := by
  have hs : (lyS d k).length ≤ 12050 := by
    rcases h.cases with ⟨rfl, rfl⟩ | h
    · decide
    · rw [lyS_pos h.pos]
      obtain ⟨n, hn⟩ : ∃ n, (decDigits d).length = n := ⟨_, rfl⟩
      have hl := h.len
      have h1 := h.lo
      have h2 := h.hi
      have hN : ∀ x : Int, x.natAbs < 10 ^ 20 → (numT x).length ≤ 21 := by
        intro x hx
        have := (padd_dec 20 x.natAbs (by decide) hx).2
        unfold numT
        split
        · simp; omega
        · omega
      have h3 := hN ((n : Int) + k - 1) (by omega)
      unfold lyB
      rw [hn] at hl ⊢
      split
      · rw [List.length_append, List.length_replicate, hn]; omega
      · split
        · rw [List.length_append, List.length_cons, List.length_take, List.length_drop, hn]; omega
        · split
          · simp only [List.length_cons, List.length_append, List.length_replicate, hn]; omega
          · split
            · simp only [List.length_cons, List.length_append, hn]; omega
            · simp only [List.length_cons, List.length_append, List.length_take, List.length_drop, hn]; omega
  unfold lyT
  cases neg
  · simp; omega
  · simp; omega
/-- What Scan makes of a text of digits. -/
theorem lyS_num {d : Nat} {k : Int} (h : DRight d k) (C : Nat) (hC : 10000 ≤ C) (neg : Bool) (hn : ((decDigits d).length : Int) + k ≤ 900) (hn' : -900 ≤ ((decDigits d).length : Int) + k) (hl : (decDigits d).length ≤ 1900) :
    (numS (lyS d k)).1 = true ∧ itemV neg (numD (lyS d k)) (expV C (numR (lyS d k)) - (numB (lyS d k) : Int)) = ⟨1, neg, d, k, 0, false⟩ := by
  rcases h.cases with ⟨rfl, rfl⟩ | h
  · refine ⟨by decide, ?_⟩
    rfl
  · obtain ⟨pt, ex, W, P, k0, a, b, hp⟩ := h.parts
    obtain ⟨t1, t2⟩ := h.trim a b
    have hW := hp.digW (dec_digs d)
    have hP := hp.digP (dec_digs d)
    obtain ⟨R, hR⟩ : ∃ R, (if ex = true then 101 :: numT k0 else []) = R := ⟨_, rfl⟩
    have hE : ExpT R ∧ expV C R = k0 := by
      rw [← hR]
      cases he : ex
      · rw [if_neg (by simp), hp.ne he]; exact ⟨.nil, rfl⟩
      · rw [if_pos rfl]
        have := hp.lo
        exact ⟨expT_num (.inl rfl) k0, expV_num 101 k0 (by omega)⟩
    have hall : (numS (lyS d k)).1 = true ∧ numD (lyS d k) = W ++ P ∧ numB (lyS d k) = P.length ∧ numR (lyS d k) = R := by
      rw [lyS_pos h.pos, hp.eq, hR]
      cases hq : pt
      · have e0 := hp.np hq
        rw [if_neg (by simp), List.nil_append, e0, List.append_nil]
        have := num_plain hW hp.w hE.1
        simpa using this
      · rw [if_pos rfl]
        exact num_point hW hP (.inl hp.w) hE.1
    obtain ⟨q1, q2, q3, q4⟩ := hall
    refine ⟨q1, ?_⟩
    rw [q2, q3, q4, hE.2]
    have hk := hp.kk
    unfold itemV
    simp only
    rw [hp.all, t1, t2, if_neg (dec_ne d), List.length_append, List.length_replicate]
    have e1 : k0 - (P.length : Int) + ((((decDigits d).length + b : Nat) : Int) - ((decDigits d).length : Int)) = k := by omega
    rw [e1, if_neg (by omega), if_neg (by omega), if_neg (by omega), numV_dec]
theorem lyT_item {d : Nat} {k : Int} (h : DRight d k) (neg : Bool) (C : Nat) (hC : 10000 ≤ C) (hn : ((decDigits d).length : Int) + k ≤ 900) (hn' : -900 ≤ ((decDigits d).length : Int) + k) (hl : (decDigits d).length ≤ 1900) :
    (textS (lyT neg d k)).1 = true ∧ textV C (lyT neg d k) = ⟨1, neg, d, k, 0, false⟩ := by
  unfold lyT
  cases neg
  · obtain ⟨h1, h2⟩ := lyS_num h C hC false hn hn' hl
    have := text_pos h1 C
    rw [h2] at this
    exact this
  · obtain ⟨h1, h2⟩ := lyS_num h C hC true hn hn' hl
    have := text_neg h1 C
    rw [h2] at this
    exact this
end Go.Cal
