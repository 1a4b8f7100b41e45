/- Plain: how far a number's digits go. Conditions: none. -/
/- Plain: a sign ahead; words with more behind; the place where no text goes on. Conditions: none. -/
/- Plain: the document's states with what they gather, and what it is worth. Conditions: none. -/
/- Plain: bounds of what is told; texts that are one number. Conditions: none. -/
/- Plain: the whole text of a number by a power of two, and what a text is by one (chapter 16). Conditions: none. -/
import Derived.Test.YtncfbleeidjflaaGreatDoorTx02
namespace Go.Cal
/-- How far the digits go, the point with them. -/
def numP (t : List UInt8) : Nat := t.length - (numR t).length
theorem numR_suffix (t : List UInt8) : numR t <:+ t := by
  unfold numR
  have h := List.dropWhile_suffix (l := t) isDig
  split
  · rename_i r e
    rw [e] at h
    exact ((List.dropWhile_suffix (l := r) isDig).trans (List.suffix_cons 46 r)).trans h
  · exact h
theorem num_pt {t r : List UInt8} (e : t.dropWhile isDig = 46 :: r) : numD t = t.takeWhile isDig ++ r.takeWhile isDig ∧ numB t = (r.takeWhile isDig).length ∧ numR t = r.dropWhile isDig ∧
    numS t = if (t.takeWhile isDig).isEmpty && (r.takeWhile isDig).isEmpty then (false, 1) else ((expS (r.dropWhile isDig)).1, (t.takeWhile isDig).length + 1 + (r.takeWhile isDig).length + (expS (r.dropWhile isDig)).2) := by
  unfold numD numB numR numS
  rw [e]
  exact ⟨rfl, rfl, rfl, rfl⟩
theorem num_np {t : List UInt8} (hne : ∀ r, t.dropWhile isDig = 46 :: r → False) : numD t = t.takeWhile isDig ∧ numB t = 0 ∧ numR t = t.dropWhile isDig ∧
    numS t = if (t.takeWhile isDig).isEmpty then (false, 0) else ((expS (t.dropWhile isDig)).1, (t.takeWhile isDig).length + (expS (t.dropWhile isDig)).2) := by
  unfold numD numB numR numS
  generalize t.takeWhile isDig = a
  generalize t.dropWhile isDig = x at hne ⊢
  match x, hne with
  | [], _ => exact ⟨rfl, rfl, rfl, rfl⟩
  | c :: s, hne =>
    refine ⟨?_, ?_, ?_, ?_⟩
    all_goals
      split
      · rename_i r e
        exact (hne r e).elim
      · rfl
theorem numS_eq (t : List UInt8) : numS t = if numD t = [] then (false, numP t) else ((expS (numR t)).1, numP t + (expS (numR t)).2) := by
  have hsp := congrArg List.length (span_split t)
  rw [List.length_append] at hsp
  unfold numP
  by_cases hp : ∃ r, t.dropWhile isDig = 46 :: r
  · obtain ⟨r, e⟩ := hp
    obtain ⟨h1, h2, h3, h4⟩ := num_pt e
    rw [h4, h1, h3]
    have hsp2 := congrArg List.length (span_split r)
    rw [List.length_append] at hsp2
    rw [e, List.length_cons] at hsp
    by_cases h : t.takeWhile isDig ++ r.takeWhile isDig = []
    · obtain ⟨g1, g2⟩ := List.append_eq_nil_iff.1 h
      rw [g1, List.length_nil] at hsp
      rw [g2, List.length_nil] at hsp2
      rw [if_pos h, g1, g2]
      exact Prod.ext rfl (by show 1 = _ - _; omega)
    · rw [if_neg h]
      have : ((t.takeWhile isDig).isEmpty && (r.takeWhile isDig).isEmpty) = false := by
        rw [Bool.and_eq_false_iff]
        by_cases g : t.takeWhile isDig = []
        · right
          simp only [g, List.nil_append] at h
          simpa using h
        · left
          simpa using g
      rw [this]
      exact Prod.ext rfl (by show _ + 1 + _ + _ = _ - _ + _; omega)
  · obtain ⟨h1, h2, h3, h4⟩ := num_np (fun r e => hp ⟨r, e⟩)
    rw [h4, h1, h3]
    by_cases h : t.takeWhile isDig = []
    · rw [if_pos h]
      rw [h, List.length_nil] at hsp
      rw [h]
      exact Prod.ext rfl (by show 0 = _ - _; omega)
    · rw [if_neg h]
      have : (t.takeWhile isDig).isEmpty = false := by simpa using h
      rw [this]
      exact Prod.ext rfl (by show _ + _ = _ - _ + _; omega)
theorem itemV_neg (neg : Bool) (ds : List UInt8) (k : Int) : itemV neg ds k = ⟨(itemV false ds k).kind, neg, (itemV false ds k).d, (itemV false ds k).k, (itemV false ds k).big, (itemV false ds k).cut⟩ := by
  unfold itemV
  simp only
  split
  · rfl
  · split
    · rfl
    · split
      · rfl
      · split <;> rfl
theorem expV_bound (C : Nat) (t : List UInt8) : -(C : Int) ≤ expV C t ∧ expV C t ≤ (C : Int) := by
  have h : ∀ r, expM C r ≤ C := fun r => by unfold expM; omega
  match t with
  | [] => exact ⟨by show _ ≤ (0 : Int); omega, by show (0 : Int) ≤ _; omega⟩
  | [_] => exact ⟨by show _ ≤ (0 : Int); omega, by show (0 : Int) ≤ _; omega⟩
  | e :: c :: r =>
    have h1 := h r
    have h2 := h (c :: r)
    rw [expV_cons]
    split
    · omega
    · split <;> omega
theorem numDB_le (t : List UInt8) : (numD t).length ≤ t.length ∧ numB t ≤ t.length := by
  have hsp := congrArg List.length (span_split t)
  rw [List.length_append] at hsp
  by_cases hp : ∃ r, t.dropWhile isDig = 46 :: r
  · obtain ⟨r, e⟩ := hp
    obtain ⟨h1, h2, _⟩ := num_pt e
    have hsp2 := congrArg List.length (span_split r)
    rw [List.length_append] at hsp2
    rw [e, List.length_cons] at hsp
    rw [h1, h2, List.length_append]
    omega
  · obtain ⟨h1, h2, _⟩ := num_np (fun r e => hp ⟨r, e⟩)
    rw [h1, h2]
    omega
theorem numD_le (t : List UInt8) : (numD t).length ≤ t.length := (numDB_le t).1
theorem numB_le (t : List UInt8) : numB t ≤ t.length := (numDB_le t).2
end Go.Cal
namespace Go.Cal
theorem textS_plain {l : List UInt8} (h : ∀ t, l = 45 :: t → False) : textS l = bodyS l := by
  unfold textS
  split
  · rename_i t; exact (h t rfl).elim
  · rfl
theorem textV_plain {l : List UInt8} (C : Nat) (h : ∀ t, l = 45 :: t → False) : textV C l = bodyV C false l := by
  unfold textV
  split
  · rename_i t; exact (h t rfl).elim
  · rfl
end Go.Cal
namespace Go.Cal
/-- What the document's machine holds. -/
structure Mac where
  st : Nat
  neg : Bool
  ds : List UInt8
  ex : Nat
  bh : Nat
  less : Bool
def CR : Nat := 1099511627776
/-- A byte more. -/
def Mac.step (m : Mac) (c : UInt8) : Mac :=
  ⟨nxt m.st c, if nxt m.st c = 1 then true else m.neg, if nxt m.st c = 2 ∨ nxt m.st c = 5 then m.ds ++ [c] else m.ds, if nxt m.st c = 8 then min (10 * m.ex + c.toNat - 48) CR else m.ex,
    if nxt m.st c = 5 then m.bh + 1 else m.bh, if nxt m.st c = 7 then c == 45 else m.less⟩
def Mac.run (m : Mac) (l : List UInt8) : Mac := l.foldl Mac.step m
theorem run_nil (m : Mac) : m.run [] = m := rfl
theorem run_cons (m : Mac) (c : UInt8) (l : List UInt8) : m.run (c :: l) = (m.step c).run l := rfl
theorem run_append (m : Mac) (a b : List UInt8) : m.run (a ++ b) = (m.run a).run b := by unfold Mac.run; rw [List.foldl_append]
theorem run_snoc (m : Mac) (a : List UInt8) (c : UInt8) : m.run (a ++ [c]) = (m.run a).step c := run_append m a [c]
theorem run_two (d : List UInt8) : ∀ (n : Bool) (D : List UInt8) (e b : Nat) (ls : Bool), (∀ c ∈ d, isDig c = true) → Mac.run ⟨2, n, D, e, b, ls⟩ d = ⟨2, n, D ++ d, e, b, ls⟩ := by
  induction d with
  | nil => intro n D e b ls _; rw [run_nil, List.append_nil]
  | cons c d ih =>
    intro n D e b ls h
    have hn := nxt_dig2 (h c (by simp))
    rw [run_cons]
    have hs : Mac.step ⟨2, n, D, e, b, ls⟩ c = ⟨2, n, D ++ [c], e, b, ls⟩ := by unfold Mac.step; simp [hn]
    rw [hs, ih _ _ _ _ _ (fun x hx => h x (by simp [hx]))]
    simp
theorem run_five (d : List UInt8) : ∀ (n : Bool) (D : List UInt8) (e b : Nat) (ls : Bool), (∀ c ∈ d, isDig c = true) → Mac.run ⟨5, n, D, e, b, ls⟩ d = ⟨5, n, D ++ d, e, b + d.length, ls⟩ := by
  induction d with
  | nil => intro n D e b ls _; rw [run_nil, List.append_nil]; rfl
  | cons c d ih =>
    intro n D e b ls h
    have hn := nxt_dig5 (h c (by simp))
    rw [run_cons]
    have hs : Mac.step ⟨5, n, D, e, b, ls⟩ c = ⟨5, n, D ++ [c], e, b + 1, ls⟩ := by unfold Mac.step; simp [hn]
    rw [hs, ih _ _ _ _ _ (fun x hx => h x (by simp [hx]))]
    simp only [List.append_assoc, List.singleton_append, List.length_cons]
    congr 1
    omega
theorem cap_step (v d : Nat) (hd : 48 ≤ d) : min (10 * min v CR + d - 48) CR = min (v * 10 + (d - 48)) CR := by
  unfold CR; omega
theorem run_eight (d : List UInt8) : ∀ (n : Bool) (D : List UInt8) (v b : Nat) (ls : Bool), (∀ c ∈ d, isDig c = true) → Mac.run ⟨8, n, D, min v CR, b, ls⟩ d = ⟨8, n, D, min (v * 10 ^ d.length + numV d) CR, b, ls⟩ := by
  induction d with
  | nil => intro n D v b ls _; rw [run_nil]; simp [numV]
  | cons c d ih =>
    intro n D v b ls h
    have hn := nxt_dig8 (h c (by simp))
    have hc : 48 ≤ c.toNat := by have := h c (by simp); unfold isDig at this; simp at this; omega
    rw [run_cons]
    have hs : Mac.step ⟨8, n, D, min v CR, b, ls⟩ c = ⟨8, n, D, min (v * 10 + (c.toNat - 48)) CR, b, ls⟩ := by unfold Mac.step; simp [hn, cap_step v c.toNat hc]
    rw [hs, ih _ _ _ _ _ (fun x hx => h x (by simp [hx]))]
    have hv : numV (c :: d) = (c.toNat - 48) * 10 ^ d.length + numV d := by
      have := numV_append [c] d
      simpa [numV] using this
    rw [hv, List.length_cons, Nat.pow_succ]
    congr 2
    rw [Nat.add_mul, Nat.mul_assoc, Nat.mul_comm 10]
    omega
/-- An exponent's digits. -/
theorem run_exp (s : Nat) (hs : s = 6 ∨ s = 7) (d : List UInt8) (h0 : d ≠ []) (hd : ∀ c ∈ d, isDig c = true) (n : Bool) (D : List UInt8) (b : Nat) (ls : Bool) : Mac.run ⟨s, n, D, 0, b, ls⟩ d = ⟨8, n, D, min (numV d) CR, b, ls⟩ := by
  match d, h0 with
  | c :: d, _ =>
    have hn : nxt s c = 8 := by
      have := nxt_dig67 (hd c (by simp))
      rcases hs with rfl | rfl
      · exact this.1
      · exact this.2
    have hc : 48 ≤ c.toNat := by have := hd c (by simp); unfold isDig at this; simp at this; omega
    rw [run_cons]
    have h1 : Mac.step ⟨s, n, D, 0, b, ls⟩ c = ⟨8, n, D, min (c.toNat - 48) CR, b, ls⟩ := by unfold Mac.step; simp [hn]
    rw [h1, run_eight _ _ _ _ _ _ (fun x hx => hd x (by simp [hx]))]
    have hv : numV (c :: d) = (c.toNat - 48) * 10 ^ d.length + numV d := by
      have := numV_append [c] d
      simpa [numV] using this
    rw [hv]
/-- What is behind the digits. -/
theorem run_tail (s : Nat) (hs : s = 2 ∨ s = 3 ∨ s = 5) (r : List UInt8) (hr : (expS r).1 = true) (n : Bool) (D : List UInt8) (b : Nat) :
    ∃ st ex ls, Mac.run ⟨s, n, D, 0, b, false⟩ r = ⟨st, n, D, ex, b, ls⟩ ∧ st < 10 ∧ (if ls = true then -(ex : Int) else (ex : Int)) = expV CR r := by
  match r with
  | [] => exact ⟨s, 0, false, rfl, by omega, rfl⟩
  | e :: x =>
    rw [expS_cons] at hr
    by_cases he : e = 101 ∨ e = 69
    · rw [if_pos he] at hr
      have h6 : nxt s e = 6 := by rcases hs with rfl | rfl | rfl <;> rcases he with rfl | rfl <;> decide
      have h1 : Mac.step ⟨s, n, D, 0, b, false⟩ e = ⟨6, n, D, 0, b, false⟩ := by unfold Mac.step; simp [h6]
      match x, hr with
      | [], hr => exact absurd hr (by decide)
      | c :: y, hr =>
        have hr' : (expE (c :: y)).1 = true := hr
        rw [expE_cons] at hr'
        by_cases hc : c = 43 ∨ c = 45
        · rw [if_pos hc] at hr'
          have hy : (expN y).1 = true := hr'
          unfold expN at hy
          simp only [Bool.and_eq_true, Bool.not_eq_true', List.isEmpty_eq_false_iff, List.isEmpty_iff] at hy
          have hyd : y.takeWhile isDig = y := by
            have := span_split y
            rw [hy.2, List.append_nil] at this
            exact this
          have hdy : ∀ z ∈ y, isDig z = true := by rw [← hyd]; exact take_digs y
          have hy0 : y ≠ [] := by rw [← hyd]; exact hy.1
          have h7 : nxt 6 c = 7 := by rcases hc with rfl | rfl <;> decide
          have h2 : Mac.step ⟨6, n, D, 0, b, false⟩ c = ⟨7, n, D, 0, b, c == 45⟩ := by unfold Mac.step; simp [h7]
          refine ⟨8, min (numV y) CR, c == 45, ?_, by omega, ?_⟩
          · rw [run_cons, h1, run_cons, h2, run_exp 7 (.inr rfl) y hy0 hdy]
          · rw [expV_cons]
            unfold expM
            rw [hyd]
            rcases hc with rfl | rfl
            · rfl
            · rfl
        · rw [if_neg hc] at hr'
          unfold expN at hr'
          simp only [Bool.and_eq_true, Bool.not_eq_true', List.isEmpty_eq_false_iff, List.isEmpty_iff] at hr'
          have hyd : (c :: y).takeWhile isDig = c :: y := by
            have := span_split (c :: y)
            rw [hr'.2, List.append_nil] at this
            exact this
          have hdy : ∀ z ∈ c :: y, isDig z = true := by rw [← hyd]; exact take_digs (c :: y)
          refine ⟨8, min (numV (c :: y)) CR, false, ?_, by omega, ?_⟩
          · rw [run_cons, h1, run_exp 6 (.inl rfl) (c :: y) (by simp) hdy]
          · rw [expV_plain hdy (by simp)]
            rfl
    · rw [if_neg he] at hr
      exact absurd hr (by decide)
/-- A number without a sign. -/
theorem run_num (s : Nat) (hs : s = 0 ∨ s = 1) (t : List UInt8) (h : (numS t).1 = true) (n : Bool) :
    ∃ st ex ls, Mac.run ⟨s, n, [], 0, 0, false⟩ t = ⟨st, n, numD t, ex, numB t, ls⟩ ∧ st < 10 ∧ (if ls = true then -(ex : Int) else (ex : Int)) = expV CR (numR t) := by
  have hq := numS_eq t
  by_cases h0 : numD t = []
  · rw [if_pos h0] at hq; rw [hq] at h; cases h
  · rw [if_neg h0] at hq
    have hr : (expS (numR t)).1 = true := by rw [hq] at h; exact h
    have hd1 := take_digs t
    have hsp := span_split t
    -- the digits ahead of the point
    have first : ∀ d : List UInt8, d ≠ [] → (∀ c ∈ d, isDig c = true) → Mac.run ⟨s, n, [], 0, 0, false⟩ d = ⟨2, n, d, 0, 0, false⟩ := fun d hd hdd => by
      match d, hd with
      | c :: d, _ =>
        have hn : nxt s c = 2 := by
          have := nxt_dig01 (hdd c (by simp))
          rcases hs with rfl | rfl
          · exact this.1
          · exact this.2
        have h1 : Mac.step ⟨s, n, [], 0, 0, false⟩ c = ⟨2, n, [c], 0, 0, false⟩ := by unfold Mac.step; simp [hn]
        rw [run_cons, h1, run_two _ _ _ _ _ _ (fun x hx => hdd x (by simp [hx]))]
        rfl
    by_cases hp : ∃ r, t.dropWhile isDig = 46 :: r
    · obtain ⟨r, e⟩ := hp
      obtain ⟨h1, h2, h3, _⟩ := num_pt e
      rw [h3] at hr
      rw [h1, h2, h3]
      have hd2 := take_digs r
      have hsp2 := span_split r
      have ht : t = t.takeWhile isDig ++ 46 :: (r.takeWhile isDig ++ r.dropWhile isDig) := by rw [hsp2, ← e, hsp]
      rw [h1] at h0
      generalize t.takeWhile isDig = d1 at ht hd1 h0 ⊢
      generalize r.takeWhile isDig = d2 at ht hd2 h0 ⊢
      generalize r.dropWhile isDig = x at ht hr ⊢
      subst ht
      -- behind the point
      have point : ∀ q, q = 3 ∨ q = 4 → (q = 4 → d2 ≠ []) → ∃ q', (q' = 3 ∨ q' = 5) ∧ Mac.run ⟨q, n, d1, 0, 0, false⟩ d2 = ⟨q', n, d1 ++ d2, 0, d2.length, false⟩ := fun q hqq hq4 => by
        match d2, hd2, hq4 with
        | [], _, hq4 =>
          rcases hqq with rfl | rfl
          · exact ⟨3, .inl rfl, by rw [run_nil, List.append_nil]; rfl⟩
          · exact absurd rfl (hq4 rfl)
        | c :: d2, hd2, _ =>
          have hn : nxt q c = 5 := by
            have := nxt_dig34 (hd2 c (by simp))
            rcases hqq with rfl | rfl
            · exact this.1
            · exact this.2
          have h1 : Mac.step ⟨q, n, d1, 0, 0, false⟩ c = ⟨5, n, d1 ++ [c], 0, 1, false⟩ := by unfold Mac.step; simp [hn]
          refine ⟨5, .inr rfl, ?_⟩
          rw [run_cons, h1, run_five _ _ _ _ _ _ (fun x hx => hd2 x (by simp [hx]))]
          simp only [List.append_assoc, List.singleton_append, List.length_cons]
          congr 1
          omega
      rw [run_append]
      by_cases hd : d1 = []
      · subst hd
        have hn : nxt s 46 = 4 := by rcases hs with rfl | rfl <;> decide
        have h1 : Mac.step ⟨s, n, [], 0, 0, false⟩ 46 = ⟨4, n, [], 0, 0, false⟩ := by unfold Mac.step; simp [hn]
        obtain ⟨q', hq', hrun⟩ := point 4 (.inr rfl) (fun _ => by simpa using h0)
        obtain ⟨st, ex, ls, g1, g2, g3⟩ := run_tail q' (by omega) x hr n ([] ++ d2) d2.length
        exact ⟨st, ex, ls, by rw [run_nil, run_cons, h1, run_append, hrun, g1], g2, g3⟩
      · have h1 : Mac.step ⟨2, n, d1, 0, 0, false⟩ 46 = ⟨3, n, d1, 0, 0, false⟩ := by unfold Mac.step; simp [show nxt 2 46 = 3 by decide]
        obtain ⟨q', hq', hrun⟩ := point 3 (.inl rfl) (fun e => by cases e)
        obtain ⟨st, ex, ls, g1, g2, g3⟩ := run_tail q' (by omega) x hr n (d1 ++ d2) d2.length
        exact ⟨st, ex, ls, by rw [first d1 hd hd1, run_cons, h1, run_append, hrun, g1], g2, g3⟩
    · obtain ⟨h1, h2, h3, _⟩ := num_np (fun r e => hp ⟨r, e⟩)
      rw [h3] at hr
      rw [h1, h2, h3]
      rw [h1] at h0
      obtain ⟨st, ex, ls, g1, g2, g3⟩ := run_tail 2 (.inl rfl) (t.dropWhile isDig) hr n (t.takeWhile isDig) 0
      refine ⟨st, ex, ls, ?_, g2, g3⟩
      conv => lhs; rw [← hsp]
      rw [run_append, first _ h0 hd1, g1]
/-- What stands behind the sign. -/
theorem run_body (s : Nat) (hs : s = 0 ∨ s = 1) (t : List UInt8) (h : (bodyS t).1 = true) (n : Bool) :
    ∃ st D ex b ls, Mac.run ⟨s, n, [], 0, 0, false⟩ t = ⟨st, n, D, ex, b, ls⟩ ∧ ((10 ≤ st ∧ bodyV CR n t = ⟨st / 10 + 1, n, 0, 0, 0, false⟩) ∨ (st < 10 ∧ bodyV CR n t = itemV n D ((if ls = true then -(ex : Int) else (ex : Int)) - (b : Int)))) := by
  by_cases hw : wordK t = 0
  · have hn : (numS t).1 = true := by unfold bodyS at h; rw [if_neg (by simp [hw])] at h; exact h
    obtain ⟨st, ex, ls, g1, g2, g3⟩ := run_num s hs t hn n
    refine ⟨st, numD t, ex, numB t, ls, g1, .inr ⟨g2, ?_⟩⟩
    unfold bodyV
    rw [if_neg (by simp [hw]), g3]
  · have ht : (t = wINF ∧ wordK t = 2) ∨ (t = wNAN ∧ wordK t = 3) ∨ (t = wNAR ∧ wordK t = 4) := by
      unfold wordK at hw ⊢
      by_cases h1 : t = wINF
      · exact .inl ⟨h1, if_pos h1⟩
      · rw [if_neg h1] at hw ⊢
        by_cases h2 : t = wNAN
        · exact .inr (.inl ⟨h2, if_pos h2⟩)
        · rw [if_neg h2] at hw ⊢
          by_cases h3 : t = wNAR
          · exact .inr (.inr ⟨h3, if_pos h3⟩)
          · rw [if_neg h3] at hw; exact absurd rfl hw
    have hb : bodyV CR n t = ⟨wordK t, n, 0, 0, 0, false⟩ := by unfold bodyV; rw [if_pos hw]
    rw [hb]
    rcases ht with ⟨rfl, hk⟩ | ⟨rfl, hk⟩ | ⟨rfl, hk⟩ <;> rw [hk]
    · exact ⟨12, [], 0, 0, false, by rcases hs with rfl | rfl <;> rfl, .inl ⟨by omega, rfl⟩⟩
    · exact ⟨22, [], 0, 0, false, by rcases hs with rfl | rfl <;> rfl, .inl ⟨by omega, rfl⟩⟩
    · exact ⟨32, [], 0, 0, false, by rcases hs with rfl | rfl <;> rfl, .inl ⟨by omega, rfl⟩⟩
/-- The machine's beginning. -/
def mac0 : Mac := ⟨0, false, [], 0, 0, false⟩
/-- What a text is, as the machine has it. -/
theorem run_text (l : List UInt8) (h : (textS l).1 = true) : ((10 ≤ (mac0.run l).st ∧ textV CR l = ⟨(mac0.run l).st / 10 + 1, (mac0.run l).neg, 0, 0, 0, false⟩) ∨
    ((mac0.run l).st < 10 ∧ textV CR l = itemV (mac0.run l).neg (mac0.run l).ds ((if (mac0.run l).less = true then -((mac0.run l).ex : Int) else ((mac0.run l).ex : Int)) - ((mac0.run l).bh : Int)))) := by
  by_cases h45 : ∃ t, l = 45 :: t
  · obtain ⟨t, rfl⟩ := h45
    obtain ⟨st, D, ex, b, ls, g1, g2⟩ := run_body 1 (.inr rfl) t h true
    have hs : mac0.run (45 :: t) = ⟨st, true, D, ex, b, ls⟩ := by rw [run_cons]; exact g1
    rw [hs]
    exact g2
  · rw [textS_plain (fun t e => h45 ⟨t, e⟩)] at h
    rw [textV_plain _ (fun t e => h45 ⟨t, e⟩)]
    obtain ⟨st, D, ex, b, ls, g1, g2⟩ := run_body 0 (.inl rfl) l h false
    have hs : mac0.run l = ⟨st, false, D, ex, b, ls⟩ := g1
    rw [hs]
    exact g2
/-- Exponents beyond all bounds tell the same. -/
theorem itemV_far (neg : Bool) (ds : List UInt8) (k1 k2 : Int) (hl : ds.length ≤ 3000) (h : k1 = k2 ∨ (10000 ≤ k1 ∧ 10000 ≤ k2) ∨ (k1 ≤ -10000 ∧ k2 ≤ -10000)) : itemV neg ds k1 = itemV neg ds k2 := by
  have ha := (trL_suffix ds).length_le
  have hb := (trR_prefix (trL ds)).length_le
  rcases h with rfl | ⟨h1, h2⟩ | ⟨h1, h2⟩
  · rfl
  · unfold itemV
    simp only
    by_cases h0 : trR (trL ds) = []
    · rw [if_pos h0, if_pos h0]
    · rw [if_neg h0, if_neg h0, if_pos (by omega), if_pos (by omega)]
  · unfold itemV
    simp only
    by_cases h0 : trR (trL ds) = []
    · rw [if_pos h0, if_pos h0]
    · rw [if_neg h0, if_neg h0, if_neg (by omega), if_pos (by omega), if_neg (by omega), if_pos (by omega)]
theorem expV_cap (t : List UInt8) : expV CR t = expV 1125899906842624 t ∨ (1000000 ≤ expV CR t ∧ 1000000 ≤ expV 1125899906842624 t) ∨ (expV CR t ≤ -1000000 ∧ expV 1125899906842624 t ≤ -1000000) := by
  have h : ∀ r, expM CR r = expM 1125899906842624 r ∨ (1000000 ≤ expM CR r ∧ 1000000 ≤ expM 1125899906842624 r) := fun r => by unfold expM CR; omega
  match t with
  | [] => exact .inl rfl
  | [_] => exact .inl rfl
  | e :: c :: r =>
    have h1 := h r
    have h2 := h (c :: r)
    rw [expV_cons, expV_cons]
    split
    · omega
    · split <;> omega
theorem bodyV_cap (n : Bool) (t : List UInt8) (hl : t.length ≤ 3000) : bodyV CR n t = bodyV 1125899906842624 n t := by
  unfold bodyV
  split
  · rfl
  · have h1 := numD_le t
    have h2 := numB_le t
    have h3 := expV_cap (numR t)
    exact itemV_far _ _ _ _ (by omega) (by omega)
theorem textV_cap (l : List UInt8) (hl : l.length ≤ 3000) : textV CR l = textV 1125899906842624 l := by
  by_cases h45 : ∃ t, l = 45 :: t
  · obtain ⟨t, rfl⟩ := h45
    rw [List.length_cons] at hl
    exact bodyV_cap true t (by omega)
  · rw [textV_plain _ (fun t e => h45 ⟨t, e⟩), textV_plain _ (fun t e => h45 ⟨t, e⟩)]
    exact bodyV_cap false l hl
end Go.Cal
namespace Go.Cal
theorem trLR_head {l : List UInt8} (h : trR (trL l) ≠ []) : (trR (trL l)).head? ≠ some 48 := by
  obtain ⟨s, hs⟩ := trR_prefix (trL l)
  have h1 := trL_head l
  rw [← hs] at h1
  match hb : trR (trL l), h with
  | c :: r, _ =>
    rw [hb] at h1
    simpa using h1
theorem trLR_digs {l : List UInt8} (hd : ∀ c ∈ l, isDig c = true) : ∀ c ∈ trR (trL l), isDig c = true := fun c hc =>
  hd c ((trL_suffix l).subset ((trR_prefix _).subset hc))
theorem one_digit {l : List UInt8} (h : l.head? ≠ some 48) : l.head? = some 48 → l.length = 1 := fun e => absurd e h
/-- The bounds of a number. -/
structure Bnd (x : Item) (neg : Bool) : Prop where
  neg : x.neg = neg
  zero : x.d = 0 → x.k = 0 ∧ x.cut = false ∧ (x.kind = 1 ∨ x.big = 0)
  kind : 1 ≤ x.kind ∧ x.kind ≤ 4
  some : x.d ≠ 0 → x.kind = 1 ∧ x.big = 0 ∧ ∃ r c, Lib.decDigits x.d = r ++ [c] ∧ c ≠ 48 ∧ r.length + 1 ≤ 1991 ∧ (r.length + 1 = 1991 ↔ x.cut = true) ∧ (r.length : Int) + 1 + x.k ≤ 1000 ∧ -1000 < (r.length : Int) + 1 + x.k
theorem snoc_of {l : List UInt8} (h : l ≠ []) : ∃ r c, l = r ++ [c] := ⟨l.dropLast, l.getLast h, (List.dropLast_concat_getLast h).symm⟩
theorem itemV_bnd (neg : Bool) (ds : List UInt8) (hd : ∀ c ∈ ds, isDig c = true) (k : Int) : Bnd (itemV neg ds k) neg := by
  have hb1 := trLR_digs hd
  have hb2 := trR_last (trL ds)
  have hb3 := trLR_head (l := ds)
  unfold itemV
  simp only
  generalize trR (trL ds) = b at hb1 hb2 hb3
  generalize k + (((trL ds).length : Int) - (b.length : Int)) = k1
  by_cases h0 : b = []
  · rw [if_pos h0]
    exact ⟨rfl, fun _ => ⟨rfl, rfl, .inl rfl⟩, ⟨by show 1 ≤ 1; omega, by show 1 ≤ 4; omega⟩, fun h => absurd rfl h⟩
  · rw [if_neg h0]
    have h3 := hb3 h0
    by_cases h1 : 1000 ≤ (b.length : Int) + k1 - 1
    · rw [if_pos h1]
      exact ⟨rfl, fun _ => ⟨rfl, rfl, .inl rfl⟩, ⟨by show 1 ≤ 1; omega, by show 1 ≤ 4; omega⟩, fun h => absurd rfl h⟩
    · rw [if_neg h1]
      by_cases h2 : (b.length : Int) + k1 - 1 < -1000
      · rw [if_pos h2]
        exact ⟨rfl, fun _ => ⟨rfl, rfl, .inl rfl⟩, ⟨by show 1 ≤ 1; omega, by show 1 ≤ 4; omega⟩, fun h => absurd rfl h⟩
      · rw [if_neg h2]
        by_cases h4 : 1990 < b.length
        · rw [if_pos h4]
          have hh : (b.take 1990 ++ [49]).head? ≠ some 48 := by
            match b, h0, h3 with
            | c :: r, _, h3 => simpa using h3
          have hdec : Lib.decDigits (numV (b.take 1990 ++ [49])) = b.take 1990 ++ [49] := dec_numV (by simp) (fun c hc => by
            rcases List.mem_append.1 hc with h | h
            · exact hb1 c (List.mem_of_mem_take h)
            · rw [List.mem_singleton.1 h]; decide) (one_digit hh)
          have hl : (b.take 1990).length = 1990 := by rw [List.length_take]; omega
          refine ⟨rfl, fun e => ?_, ⟨by show 1 ≤ 1; omega, by show 1 ≤ 4; omega⟩, fun _ => ⟨rfl, rfl, _, _, hdec, by decide, ?_, ?_, ?_, ?_⟩⟩
          · have e' : numV (b.take 1990 ++ [49]) = 0 := e
            rw [e', dec_small (by decide)] at hdec
            have := congrArg List.length hdec
            rw [List.length_append, hl] at this
            simp at this
          · omega
          · rw [hl]; simp
          · show _ + 1 + (k1 + ((b.length : Int) - 1991)) ≤ 1000
            rw [hl]; omega
          · show _ < _ + 1 + (k1 + ((b.length : Int) - 1991))
            rw [hl]; omega
        · rw [if_neg h4]
          have hdec : Lib.decDigits (numV b) = b := dec_numV h0 hb1 (one_digit h3)
          obtain ⟨r, c, hrc⟩ := snoc_of h0
          have hl : b.length = r.length + 1 := by rw [hrc, List.length_append]; rfl
          have hc : c ≠ 48 := fun e => hb2 (by rw [hrc, e]; simp)
          refine ⟨rfl, fun e => ?_, ⟨by show 1 ≤ 1; omega, by show 1 ≤ 4; omega⟩, fun _ => ⟨rfl, rfl, r, c, hdec.trans hrc, hc, by omega, ?_, ?_, ?_⟩⟩
          · have e' : numV b = 0 := e
            rw [e', dec_small (by decide)] at hdec
            rw [← hdec] at h3
            exact absurd rfl h3
          · show _ ↔ false = true
            simp; omega
          · show _ + 1 + k1 ≤ 1000
            omega
          · show _ < _ + 1 + k1
            omega
theorem wordK_le (t : List UInt8) : wordK t ≤ 4 := by
  unfold wordK
  split
  · omega
  · split
    · omega
    · split <;> omega
theorem bodyV_bnd (C : Nat) (neg : Bool) (t : List UInt8) : Bnd (bodyV C neg t) neg := by
  have h4 := wordK_le t
  unfold bodyV
  by_cases h : wordK t ≠ 0
  · rw [if_pos h]
    exact ⟨rfl, fun _ => ⟨rfl, rfl, .inr rfl⟩, ⟨by show 1 ≤ wordK t; omega, h4⟩, fun h => absurd rfl h⟩
  · rw [if_neg h]
    exact itemV_bnd _ _ (numD_digs t) _
/-- What is told is within what may be. -/
theorem textV_bnd (C : Nat) (l : List UInt8) : Bnd (textV C l) (l.head? == some 45) := by
  unfold textV
  split
  · exact bodyV_bnd C true _
  · rename_i hne
    have : (l.head? == some 45) = false := by
      match l, hne with
      | [], _ => rfl
      | c :: r, hne =>
        have : c ≠ 45 := fun e => hne r (by rw [e])
        simpa using this
    rw [this]
    exact bodyV_bnd C false l
section Same
variable (S : List UInt8) (hS : ∀ c ∈ S, isDig c = true)
include hS
end Same
/-- An exponent with noughts ahead. -/
theorem numV_zeros (z : Nat) (l : List UInt8) : numV (List.replicate z 48 ++ l) = numV l := by
  induction z with
  | zero => rfl
  | succ z ih => rw [List.replicate_succ, List.cons_append]; unfold numV at ih ⊢; rw [List.foldl_cons]; exact ih
section Case
variable (W P : List UInt8) (hW : ∀ c ∈ W, isDig c = true) (hP : ∀ c ∈ P, isDig c = true)
include hW hP
end Case
end Go.Cal
namespace Go.Cal
open Go.Lib
def qM (N : Nat) (e : Int) : Nat := if 0 ≤ e then N * 2 ^ e.toNat else N * 5 ^ (-e).toNat
def qF (e : Int) : Nat := (-e).toNat
def qfr (M f : Nat) : List UInt8 := trR (padd f (M % 10 ^ f))
def qtx (M f : Nat) : List UInt8 := decDigits (M / 10 ^ f) ++ (if qfr M f = [] then [] else 46 :: qfr M f)
def qsg (neg : Bool) (N : Nat) : List UInt8 := if neg = true ∧ N ≠ 0 then [45] else []
def qS (neg : Bool) (N : Nat) (e : Int) : List UInt8 := qsg neg N ++ qtx (qM N e) (qF e)
theorem ten_pow (n : Nat) : 10 ^ n = 2 ^ n * 5 ^ n := by rw [← Nat.mul_pow]
/-- The digits, with as many noughts ahead as want for one ahead of the point. -/
theorem qpad (M f : Nat) (hf : 1 ≤ f) : List.replicate (f + 1 - (decDigits M).length) 48 ++ decDigits M = decDigits (M / 10 ^ f) ++ padd f (M % 10 ^ f) := by
  have hp : 0 < 10 ^ f := Nat.pow_pos (by decide)
  have hr : M % 10 ^ f < 10 ^ f := Nat.mod_lt _ hp
  by_cases hq : M / 10 ^ f = 0
  · have hM : M < 10 ^ f := by
      rcases Nat.div_eq_zero_iff.1 hq with h | h
      · omega
      · exact h
    obtain ⟨h1, h2⟩ := padd_dec f M hf hM
    rw [hq, Nat.mod_eq_of_lt hM, h1, show f + 1 - (decDigits M).length = (f - (decDigits M).length) + 1 from (by have := h2; omega), List.replicate_succ, show decDigits 0 = [48] by rw [dec_small (by decide)]; rfl]
    rfl
  · have hd := dec_padd f (M / 10 ^ f) (M % 10 ^ f) (Nat.pos_of_ne_zero hq) hr
    rw [Nat.div_add_mod'] at hd
    have hl : (decDigits M).length = (decDigits (M / 10 ^ f)).length + f := by rw [hd, List.length_append, padd_length]
    have h1 := List.length_pos_iff.2 (dec_ne (M / 10 ^ f))
    rw [show f + 1 - (decDigits M).length = 0 by omega, hd]
    rfl
/-- What is left of a number where powers of five and two are taken away. -/
def qdv (m p : Nat) : Option Nat := if m % p = 0 then some (m / p) else none
def qwh (d : Nat) (k e : Int) : Option Nat :=
  (if 0 ≤ k then some (d * 5 ^ k.toNat) else qdv d (5 ^ (-k).toNat)).bind fun m => if 0 ≤ k - e then some (m * 2 ^ (k - e).toNat) else qdv m (2 ^ (-(k - e)).toNat)
def qB : Nat := 2 ^ 2048
def qfar (e : Int) : Prop := e < -1200 ∨ 1200 < e
instance (e : Int) : Decidable (qfar e) := by unfold qfar; exact inferInstance
/-- What Parse tells: what is wrong; the sign; the number. -/
def qP (l : List UInt8) (e : Int) : Nat × Bool × Nat :=
  if qfar e then (1, false, 0)
  else if (textS l).1 = false ∨ (textV 1125899906842624 l).kind ≠ 1 then (2, false, 0)
  else if (textV 1125899906842624 l).big ≠ 0 ∨ (textV 1125899906842624 l).cut = true then (8, false, 0)
  else match qwh (textV 1125899906842624 l).d (textV 1125899906842624 l).k e with
    | none => (8, false, 0)
    | some m => if m < qB then (0, (textV 1125899906842624 l).neg && decide (m ≠ 0), m) else (4, false, 0)
end Go.Cal
