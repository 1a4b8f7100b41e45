/- Plain: bounds of what is told; texts that are one number. Conditions: none. -/
/- Plain: the document's states with what they gather, and what it is worth. Conditions: none. -/
import Derived.Test.YtncfbleeidjflaaGreatDoorSu03
namespace Go.Cal
theorem trLR_head {l : List UInt8} (h : trR (trL l) ≠ []) : (trR (trL l)).head? ≠ some 48 := by
  obtain ⟨s, hs⟩ := trR_prefix (trL l)
  have h1 := trL_head l
  rw [← hs] at h1
  match hb : trR (trL l), h with
  | c :: r, _ =>
    rw [hb] at h1
    simpa using h1
theorem trLR_digs {l : List UInt8} (hd : ∀ c ∈ l, isDig c = true) : ∀ c ∈ trR (trL l), isDig c = true := fun c hc =>
  hd c ((trL_suffix l).subset ((trR_prefix _).subset hc))
section Same
variable (S : List UInt8) (hS : ∀ c ∈ S, isDig c = true)
include hS
end Same
section Case
variable (W P : List UInt8) (hW : ∀ c ∈ W, isDig c = true) (hP : ∀ c ∈ P, isDig c = true)
include hW hP
end Case
end Go.Cal
namespace Go.Cal
/-- What the document's machine holds. -/
structure Mac where
  st : Nat
  neg : Bool
  ds : List UInt8
  ex : Nat
  bh : Nat
  less : Bool
def CR : Nat := 1099511627776
/-- A byte more. -/
def Mac.step (m : Mac) (c : UInt8) : Mac :=
  ⟨nxt m.st c, if nxt m.st c = 1 then true else m.neg, if nxt m.st c = 2 ∨ nxt m.st c = 5 then m.ds ++ [c] else m.ds, if nxt m.st c = 8 then min (10 * m.ex + c.toNat - 48) CR else m.ex,
    if nxt m.st c = 5 then m.bh + 1 else m.bh, if nxt m.st c = 7 then c == 45 else m.less⟩
def Mac.run (m : Mac) (l : List UInt8) : Mac := l.foldl Mac.step m
theorem run_nil (m : Mac) : m.run [] = m := rfl
theorem run_cons (m : Mac) (c : UInt8) (l : List UInt8) : m.run (c :: l) = (m.step c).run l := rfl
theorem run_append (m : Mac) (a b : List UInt8) : m.run (a ++ b) = (m.run a).run b := by unfold Mac.run; rw [List.foldl_append]
theorem run_snoc (m : Mac) (a : List UInt8) (c : UInt8) : m.run (a ++ [c]) = (m.run a).step c := run_append m a [c]
theorem run_two (d : List UInt8) : ∀ (n : Bool) (D : List UInt8) (e b : Nat) (ls : Bool), (∀ c ∈ d, isDig c = true) → Mac.run ⟨2, n, D, e, b, ls⟩ d = ⟨2, n, D ++ d, e, b, ls⟩ := by
  induction d with
  | nil => intro n D e b ls _; rw [run_nil, List.append_nil]
  | cons c d ih =>
    intro n D e b ls h
    have hn := nxt_dig2 (h c (by simp))
    rw [run_cons]
    have hs : Mac.step ⟨2, n, D, e, b, ls⟩ c = ⟨2, n, D ++ [c], e, b, ls⟩ := by unfold Mac.step; simp [hn]
    rw [hs, ih _ _ _ _ _ (fun x hx => h x (by simp [hx]))]
    simp
theorem run_five (d : List UInt8) : ∀ (n : Bool) (D : List UInt8) (e b : Nat) (ls : Bool), (∀ c ∈ d, isDig c = true) → Mac.run ⟨5, n, D, e, b, ls⟩ d = ⟨5, n, D ++ d, e, b + d.length, ls⟩ := by
  induction d with
  | nil => intro n D e b ls _; rw [run_nil, List.append_nil]; rfl
  | cons c d ih =>
    intro n D e b ls h
    have hn := nxt_dig5 (h c (by simp))
    rw [run_cons]
    have hs : Mac.step ⟨5, n, D, e, b, ls⟩ c = ⟨5, n, D ++ [c], e, b + 1, ls⟩ := by unfold Mac.step; simp [hn]
    rw [hs, ih _ _ _ _ _ (fun x hx => h x (by simp [hx]))]
    simp only [List.append_assoc, List.singleton_append, List.length_cons]
    congr 1
    omega
theorem cap_step (v d : Nat) (hd : 48 ≤ d) : min (10 * min v CR + d - 48) CR = min (v * 10 + (d - 48)) CR := by
  unfold CR; omega
theorem run_eight (d : List UInt8) : ∀ (n : Bool) (D : List UInt8) (v b : Nat) (ls : Bool), (∀ c ∈ d, isDig c = true) → Mac.run ⟨8, n, D, min v CR, b, ls⟩ d = ⟨8, n, D, min (v * 10 ^ d.length + numV d) CR, b, ls⟩ := by
  induction d with
  | nil => intro n D v b ls _; rw [run_nil]; simp [numV]
  | cons c d ih =>
    intro n D v b ls h
    have hn := nxt_dig8 (h c (by simp))
    have hc : 48 ≤ c.toNat := by have := h c (by simp); unfold isDig at this; simp at this; omega
    rw [run_cons]
    have hs : Mac.step ⟨8, n, D, min v CR, b, ls⟩ c = ⟨8, n, D, min (v * 10 + (c.toNat - 48)) CR, b, ls⟩ := by unfold Mac.step; simp [hn, cap_step v c.toNat hc]
    rw [hs, ih _ _ _ _ _ (fun x hx => h x (by simp [hx]))]
    have hv : numV (c :: d) = (c.toNat - 48) * 10 ^ d.length + numV d := by
      have := numV_append [c] d
      simpa [numV] using this
    rw [hv, List.length_cons, Nat.pow_succ]
    congr 2
    rw [Nat.add_mul, Nat.mul_assoc, Nat.mul_comm 10]
    omega
/-- An exponent's digits. -/
theorem run_exp (s : Nat) (hs : s = 6 ∨ s = 7) (d : List UInt8) (h0 : d ≠ []) (hd : ∀ c ∈ d, isDig c = true) (n : Bool) (D : List UInt8) (b : Nat) (ls : Bool) : Mac.run ⟨s, n, D, 0, b, ls⟩ d = ⟨8, n, D, min (numV d) CR, b, ls⟩ := by
  match d, h0 with
  | c :: d, _ =>
    have hn : nxt s c = 8 := by
      have := nxt_dig67 (hd c (by simp))
      rcases hs with rfl | rfl
      · exact this.1
      · exact this.2
    have hc : 48 ≤ c.toNat := by have := hd c (by simp); unfold isDig at this; simp at this; omega
    rw [run_cons]
    have h1 : Mac.step ⟨s, n, D, 0, b, ls⟩ c = ⟨8, n, D, min (c.toNat - 48) CR, b, ls⟩ := by unfold Mac.step; simp [hn]
    rw [h1, run_eight _ _ _ _ _ _ (fun x hx => hd x (by simp [hx]))]
    have hv : numV (c :: d) = (c.toNat - 48) * 10 ^ d.length + numV d := by
      have := numV_append [c] d
      simpa [numV] using this
    rw [hv]
/-- What is behind the digits. -/
theorem run_tail (s : Nat) (hs : s = 2 ∨ s = 3 ∨ s = 5) (r : List UInt8) (hr : (expS r).1 = true) (n : Bool) (D : List UInt8) (b : Nat) :
    ∃ st ex ls, Mac.run ⟨s, n, D, 0, b, false⟩ r = ⟨st, n, D, ex, b, ls⟩ ∧ st < 10 ∧ (if ls = true then -(ex : Int) else (ex : Int)) = expV CR r := by
  match r with
  | [] => exact ⟨s, 0, false, rfl, by omega, rfl⟩
  | e :: x =>
    rw [expS_cons] at hr
    by_cases he : e = 101 ∨ e = 69
    · rw [if_pos he] at hr
      have h6 : nxt s e = 6 := by rcases hs with rfl | rfl | rfl <;> rcases he with rfl | rfl <;> decide
      have h1 : Mac.step ⟨s, n, D, 0, b, false⟩ e = ⟨6, n, D, 0, b, false⟩ := by unfold Mac.step; simp [h6]
      match x, hr with
      | [], hr => exact absurd hr (by decide)
      | c :: y, hr =>
        have hr' : (expE (c :: y)).1 = true := hr
        rw [expE_cons] at hr'
        by_cases hc : c = 43 ∨ c = 45
        · rw [if_pos hc] at hr'
          have hy : (expN y).1 = true := hr'
          unfold expN at hy
          simp only [Bool.and_eq_true, Bool.not_eq_true', List.isEmpty_eq_false_iff, List.isEmpty_iff] at hy
          have hyd : y.takeWhile isDig = y := by
            have := span_split y
            rw [hy.2, List.append_nil] at this
            exact this
          have hdy : ∀ z ∈ y, isDig z = true := by rw [← hyd]; exact take_digs y
          have hy0 : y ≠ [] := by rw [← hyd]; exact hy.1
          have h7 : nxt 6 c = 7 := by rcases hc with rfl | rfl <;> decide
          have h2 : Mac.step ⟨6, n, D, 0, b, false⟩ c = ⟨7, n, D, 0, b, c == 45⟩ := by unfold Mac.step; simp [h7]
          refine ⟨8, min (numV y) CR, c == 45, ?_, by omega, ?_⟩
          · rw [run_cons, h1, run_cons, h2, run_exp 7 (.inr rfl) y hy0 hdy]
          · rw [expV_cons]
            unfold expM
            rw [hyd]
            rcases hc with rfl | rfl
            · rfl
            · rfl
        · rw [if_neg hc] at hr'
          unfold expN at hr'
          simp only [Bool.and_eq_true, Bool.not_eq_true', List.isEmpty_eq_false_iff, List.isEmpty_iff] at hr'
          have hyd : (c :: y).takeWhile isDig = c :: y := by
            have := span_split (c :: y)
            rw [hr'.2, List.append_nil] at this
            exact this
          have hdy : ∀ z ∈ c :: y, isDig z = true := by rw [← hyd]; exact take_digs (c :: y)
          refine ⟨8, min (numV (c :: y)) CR, false, ?_, by omega, ?_⟩
          · rw [run_cons, h1, run_exp 6 (.inl rfl) (c :: y) (by simp) hdy]
          · rw [expV_plain hdy (by simp)]
            rfl
    · rw [if_neg he] at hr
      exact absurd hr (by decide)
/-- A number without a sign. -/
theorem run_num (s : Nat) (hs : s = 0 ∨ s = 1) (t : List UInt8) (h : (numS t).1 = true) (n : Bool) :
    ∃ st ex ls, Mac.run ⟨s, n, [], 0, 0, false⟩ t = ⟨st, n, numD t, ex, numB t, ls⟩ ∧ st < 10 ∧ (if ls = true then -(ex : Int) else (ex : Int)) = expV CR (numR t) := by
  have hq := numS_eq t
  by_cases h0 : numD t = []
  · rw [if_pos h0] at hq; rw [hq] at h; cases h
  · rw [if_neg h0] at hq
    have hr : (expS (numR t)).1 = true := by rw [hq] at h; exact h
    have hd1 := take_digs t
    have hsp := span_split t
    -- the digits ahead of the point
    have first : ∀ d : List UInt8, d ≠ [] → (∀ c ∈ d, isDig c = true) → Mac.run ⟨s, n, [], 0, 0, false⟩ d = ⟨2, n, d, 0, 0, false⟩ := fun d hd hdd => by
      match d, hd with
      | c :: d, _ =>
        have hn : nxt s c = 2 := by
          have := nxt_dig01 (hdd c (by simp))
          rcases hs with rfl | rfl
          · exact this.1
          · exact this.2
        have h1 : Mac.step ⟨s, n, [], 0, 0, false⟩ c = ⟨2, n, [c], 0, 0, false⟩ := by unfold Mac.step; simp [hn]
        rw [run_cons, h1, run_two _ _ _ _ _ _ (fun x hx => hdd x (by simp [hx]))]
        rfl
    by_cases hp : ∃ r, t.dropWhile isDig = 46 :: r
    · obtain ⟨r, e⟩ := hp
      obtain ⟨h1, h2, h3, _⟩ := num_pt e
      rw [h3] at hr
      rw [h1, h2, h3]
      have hd2 := take_digs r
      have hsp2 := span_split r
      have ht : t = t.takeWhile isDig ++ 46 :: (r.takeWhile isDig ++ r.dropWhile isDig) := by rw [hsp2, ← e, hsp]
      rw [h1] at h0
      generalize t.takeWhile isDig = d1 at ht hd1 h0 ⊢
      generalize r.takeWhile isDig = d2 at ht hd2 h0 ⊢
      generalize r.dropWhile isDig = x at ht hr ⊢
      subst ht
      -- behind the point
      have point : ∀ q, q = 3 ∨ q = 4 → (q = 4 → d2 ≠ []) → ∃ q', (q' = 3 ∨ q' = 5) ∧ Mac.run ⟨q, n, d1, 0, 0, false⟩ d2 = ⟨q', n, d1 ++ d2, 0, d2.length, false⟩ := fun q hqq hq4 => by
        match d2, hd2, hq4 with
        | [], _, hq4 =>
          rcases hqq with rfl | rfl
          · exact ⟨3, .inl rfl, by rw [run_nil, List.append_nil]; rfl⟩
          · exact absurd rfl (hq4 rfl)
        | c :: d2, hd2, _ =>
          have hn : nxt q c = 5 := by
            have := nxt_dig34 (hd2 c (by simp))
            rcases hqq with rfl | rfl
            · exact this.1
            · exact this.2
          have h1 : Mac.step ⟨q, n, d1, 0, 0, false⟩ c = ⟨5, n, d1 ++ [c], 0, 1, false⟩ := by unfold Mac.step; simp [hn]
          refine ⟨5, .inr rfl, ?_⟩
          rw [run_cons, h1, run_five _ _ _ _ _ _ (fun x hx => hd2 x (by simp [hx]))]
          simp only [List.append_assoc, List.singleton_append, List.length_cons]
          congr 1
          omega
      rw [run_append]
      by_cases hd : d1 = []
      · subst hd
        have hn : nxt s 46 = 4 := by rcases hs with rfl | rfl <;> decide
        have h1 : Mac.step ⟨s, n, [], 0, 0, false⟩ 46 = ⟨4, n, [], 0, 0, false⟩ := by unfold Mac.step; simp [hn]
        obtain ⟨q', hq', hrun⟩ := point 4 (.inr rfl) (fun _ => by simpa using h0)
        obtain ⟨st, ex, ls, g1, g2, g3⟩ := run_tail q' (by omega) x hr n ([] ++ d2) d2.length
        exact ⟨st, ex, ls, by rw [run_nil, run_cons, h1, run_append, hrun, g1], g2, g3⟩
      · have h1 : Mac.step ⟨2, n, d1, 0, 0, false⟩ 46 = ⟨3, n, d1, 0, 0, false⟩ := by unfold Mac.step; simp [show nxt 2 46 = 3 by decide]
        obtain ⟨q', hq', hrun⟩ := point 3 (.inl rfl) (fun e => by cases e)
        obtain ⟨st, ex, ls, g1, g2, g3⟩ := run_tail q' (by omega) x hr n (d1 ++ d2) d2.length
        exact ⟨st, ex, ls, by rw [first d1 hd hd1, run_cons, h1, run_append, hrun, g1], g2, g3⟩
    · obtain ⟨h1, h2, h3, _⟩ := num_np (fun r e => hp ⟨r, e⟩)
      rw [h3] at hr
      rw [h1, h2, h3]
      rw [h1] at h0
      obtain ⟨st, ex, ls, g1, g2, g3⟩ := run_tail 2 (.inl rfl) (t.dropWhile isDig) hr n (t.takeWhile isDig) 0
      refine ⟨st, ex, ls, ?_, g2, g3⟩
      conv => lhs; rw [← hsp]
      rw [run_append, first _ h0 hd1, g1]
/-- What stands behind the sign. -/
theorem run_body (s : Nat) (hs : s = 0 ∨ s = 1) (t : List UInt8) (h : (bodyS t).1 = true) (n : Bool) :
    ∃ st D ex b ls, Mac.run ⟨s, n, [], 0, 0, false⟩ t = ⟨st, n, D, ex, b, ls⟩ ∧ ((10 ≤ st ∧ bodyV CR n t = ⟨st / 10 + 1, n, 0, 0, 0, false⟩) ∨ (st < 10 ∧ bodyV CR n t = itemV n D ((if ls = true then -(ex : Int) else (ex : Int)) - (b : Int)))) := by
  by_cases hw : wordK t = 0
  · have hn : (numS t).1 = true := by unfold bodyS at h; rw [if_neg (by simp [hw])] at h; exact h
    obtain ⟨st, ex, ls, g1, g2, g3⟩ := run_num s hs t hn n
    refine ⟨st, numD t, ex, numB t, ls, g1, .inr ⟨g2, ?_⟩⟩
    unfold bodyV
    rw [if_neg (by simp [hw]), g3]
  · have ht : (t = wINF ∧ wordK t = 2) ∨ (t = wNAN ∧ wordK t = 3) ∨ (t = wNAR ∧ wordK t = 4) := by
      unfold wordK at hw ⊢
      by_cases h1 : t = wINF
      · exact .inl ⟨h1, if_pos h1⟩
      · rw [if_neg h1] at hw ⊢
        by_cases h2 : t = wNAN
        · exact .inr (.inl ⟨h2, if_pos h2⟩)
        · rw [if_neg h2] at hw ⊢
          by_cases h3 : t = wNAR
          · exact .inr (.inr ⟨h3, if_pos h3⟩)
          · rw [if_neg h3] at hw; exact absurd rfl hw
    have hb : bodyV CR n t = ⟨wordK t, n, 0, 0, 0, false⟩ := by unfold bodyV; rw [if_pos hw]
    rw [hb]
    rcases ht with ⟨rfl, hk⟩ | ⟨rfl, hk⟩ | ⟨rfl, hk⟩ <;> rw [hk]
    · exact ⟨12, [], 0, 0, false, by rcases hs with rfl | rfl <;> rfl, .inl ⟨by omega, rfl⟩⟩
    · exact ⟨22, [], 0, 0, false, by rcases hs with rfl | rfl <;> rfl, .inl ⟨by omega, rfl⟩⟩
    · exact ⟨32, [], 0, 0, false, by rcases hs with rfl | rfl <;> rfl, .inl ⟨by omega, rfl⟩⟩
/-- The machine's beginning. -/
def mac0 : Mac := ⟨0, false, [], 0, 0, false⟩
/-- What a text is, as the machine has it. -/
theorem run_text (l : List UInt8) (h : (textS l).1 = true) : ((10 ≤ (mac0.run l).st ∧ textV CR l = ⟨(mac0.run l).st / 10 + 1, (mac0.run l).neg, 0, 0, 0, false⟩) ∨
    ((mac0.run l).st < 10 ∧ textV CR l = itemV (mac0.run l).neg (mac0.run l).ds ((if (mac0.run l).less = true then -((mac0.run l).ex : Int) else ((mac0.run l).ex : Int)) - ((mac0.run l).bh : Int)))) := by
  by_cases h45 : ∃ t, l = 45 :: t
  · obtain ⟨t, rfl⟩ := h45
    obtain ⟨st, D, ex, b, ls, g1, g2⟩ := run_body 1 (.inr rfl) t h true
    have hs : mac0.run (45 :: t) = ⟨st, true, D, ex, b, ls⟩ := by rw [run_cons]; exact g1
    rw [hs]
    exact g2
  · rw [textS_plain (fun t e => h45 ⟨t, e⟩)] at h
    rw [textV_plain _ (fun t e => h45 ⟨t, e⟩)]
    obtain ⟨st, D, ex, b, ls, g1, g2⟩ := run_body 0 (.inl rfl) l h false
    have hs : mac0.run l = ⟨st, false, D, ex, b, ls⟩ := g1
    rw [hs]
    exact g2
/-- Exponents beyond all bounds tell the same. -/
theorem itemV_far (neg : Bool) (ds : List UInt8) (k1 k2 : Int) (hl : ds.length ≤ 3000) (h : k1 = k2 ∨ (10000 ≤ k1 ∧ 10000 ≤ k2) ∨ (k1 ≤ -10000 ∧ k2 ≤ -10000)) : itemV neg ds k1 = itemV neg ds k2 := by
  have ha := (trL_suffix ds).length_le
  have hb := (trR_prefix (trL ds)).length_le
  rcases h with rfl | ⟨h1, h2⟩ | ⟨h1, h2⟩
  · rfl
  · unfold itemV
    simp only
    by_cases h0 : trR (trL ds) = []
    · rw [if_pos h0, if_pos h0]
    · rw [if_neg h0, if_neg h0, if_pos (by omega), if_pos (by omega)]
  · unfold itemV
    simp only
    by_cases h0 : trR (trL ds) = []
    · rw [if_pos h0, if_pos h0]
    · rw [if_neg h0, if_neg h0, if_neg (by omega), if_pos (by omega), if_neg (by omega), if_pos (by omega)]
theorem expV_cap (t : List UInt8) : expV CR t = expV 1125899906842624 t ∨ (1000000 ≤ expV CR t ∧ 1000000 ≤ expV 1125899906842624 t) ∨ (expV CR t ≤ -1000000 ∧ expV 1125899906842624 t ≤ -1000000) := by
  have h : ∀ r, expM CR r = expM 1125899906842624 r ∨ (1000000 ≤ expM CR r ∧ 1000000 ≤ expM 1125899906842624 r) := fun r => by unfold expM CR; omega
  match t with
  | [] => exact .inl rfl
  | [_] => exact .inl rfl
  | e :: c :: r =>
    have h1 := h r
    have h2 := h (c :: r)
    rw [expV_cons, expV_cons]
    split
    · omega
    · split <;> omega
theorem bodyV_cap (n : Bool) (t : List UInt8) (hl : t.length ≤ 3000) : bodyV CR n t = bodyV 1125899906842624 n t := by
  unfold bodyV
  split
  · rfl
  · have h1 := numD_le t
    have h2 := numB_le t
    have h3 := expV_cap (numR t)
    exact itemV_far _ _ _ _ (by omega) (by omega)
theorem textV_cap (l : List UInt8) (hl : l.length ≤ 3000) : textV CR l = textV 1125899906842624 l := by
  by_cases h45 : ∃ t, l = 45 :: t
  · obtain ⟨t, rfl⟩ := h45
    rw [List.length_cons] at hl
    exact bodyV_cap true t (by omega)
  · rw [textV_plain _ (fun t e => h45 ⟨t, e⟩), textV_plain _ (fun t e => h45 ⟨t, e⟩)]
    exact bodyV_cap false l hl
end Go.Cal
