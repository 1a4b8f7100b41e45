/- Plain: words among texts; the whole of a text, by states and by parts. Conditions: none. -/
import Derived.Test.YtjhdkdfiadlmcaaGreatDoorScanP
namespace Go.Cal
/-- How far two rows go together. -/
def lcp : List UInt8 → List UInt8 → Nat
  | x :: xs, y :: ys => if x = y then lcp xs ys + 1 else 0
  | _, _ => 0
theorem lcp_le_left : ∀ (t w : List UInt8), lcp t w ≤ t.length
  | [], _ => by simp [lcp]
  | _ :: _, [] => by simp [lcp]
  | x :: xs, y :: ys => by
    unfold lcp
    split
    · have := lcp_le_left xs ys
      simp; omega
    · simp
theorem lcp_le_right : ∀ (t w : List UInt8), lcp t w ≤ w.length
  | [], _ => by simp [lcp]
  | _ :: _, [] => by simp [lcp]
  | x :: xs, y :: ys => by
    unfold lcp
    split
    · have := lcp_le_right xs ys
      simp; omega
    · simp
theorem lcp_nil (t : List UInt8) : lcp t [] = 0 := by cases t <;> rfl
theorem lcp_same : ∀ (t w : List UInt8) (n : Nat), n < lcp t w → t.getD n 0 = w.getD n 0
  | [], _, n, h => by simp [lcp] at h
  | _ :: _, [], n, h => by simp [lcp] at h
  | x :: xs, y :: ys, n, h => by
    unfold lcp at h
    split at h
    · rename_i e
      subst e
      match n with
      | 0 => rfl
      | n + 1 =>
        have := lcp_same xs ys n (by omega)
        simpa using this
    · omega
theorem lcp_stop : ∀ (t w : List UInt8), lcp t w < w.length → lcp t w < t.length → t.getD (lcp t w) 0 ≠ w.getD (lcp t w) 0
  | [], _, _, h => by simp at h
  | _ :: _, [], h, _ => by simp at h
  | x :: xs, y :: ys, h1, h2 => by
    unfold lcp at h1 h2 ⊢
    split
    · rename_i e
      rw [if_pos e] at h1 h2
      have := lcp_stop xs ys (by simpa using h1) (by simpa using h2)
      simpa using this
    · rename_i e
      simpa using e
theorem lcp_all : ∀ (t w : List UInt8), lcp t w = w.length → t.length = w.length → t = w
  | [], [], _, _ => rfl
  | [], _ :: _, _, h => by simp at h
  | _ :: _, [], _, h => by simp at h
  | x :: xs, y :: ys, h1, h2 => by
    unfold lcp at h1
    split at h1
    · rename_i e
      subst e
      rw [lcp_all xs ys (by simpa using h1) (by simpa using h2)]
    · simp at h1
theorem lcp_self : ∀ (w : List UInt8), lcp w w = w.length
  | [] => rfl
  | x :: xs => by simp [lcp, lcp_self xs]
/-- The five words of the program's row. -/
def wINF : List UInt8 := [105, 110, 102]
def wNAN : List UInt8 := [110, 97, 110]
def wNAR : List UInt8 := [78, 97, 82]
/-- Which word a text is: 2, 3, 4; 0: none. -/
def wordK (t : List UInt8) : Nat := if t = wINF then 2 else if t = wNAN then 3 else if t = wNAR then 4 else 0
/-- How far it goes on as one. -/
def wordN (t : List UInt8) : Nat := max (lcp t wINF) (max (lcp t wNAN) (lcp t wNAR))
/-- A text behind its sign: is it one; how far it goes on. -/
def bodyS (t : List UInt8) : Bool × Nat := if wordK t ≠ 0 then (true, 3) else ((numS t).1, max (wordN t) (numS t).2)
theorem nxt_99 {st : Nat} {c : UInt8} (h9 : 9 ≤ st) (h : ¬ ((st = 10 ∧ c = 110) ∨ (st = 11 ∧ c = 102) ∨ (st = 20 ∧ c = 97) ∨ (st = 21 ∧ c = 110) ∨ (st = 30 ∧ c = 97) ∨ (st = 31 ∧ c = 82))) : nxt st c = 99 := by
  unfold nxt
  rw [if_neg (by omega), if_neg (by omega), if_neg (by omega), if_neg (by omega), if_neg (by omega), if_neg h]
/-- A word, by states: b1 b2 b3 are its bytes, q the state behind the first one. -/
theorem outA_three {st q : Nat} {b1 b2 b3 : UInt8} (h1 : nxt st b1 = q) (h2 : nxt q b2 = q + 1) (h3 : nxt (q + 1) b3 = q + 2) (hq : q = 10 ∨ q = 20 ∨ q = 30) (n2 : ∀ c, c ≠ b2 → nxt q c = 99) (n3 : ∀ c, c ≠ b3 → nxt (q + 1) c = 99) (r : List UInt8) :
    outA st (b1 :: r) = (decide (b1 :: r = [b1, b2, b3]), lcp (b1 :: r) [b1, b2, b3]) := by
  have ho : over q = false ∧ over (q + 1) = false ∧ over (q + 2) = true := by rcases hq with rfl | rfl | rfl <;> exact ⟨rfl, rfl, rfl⟩
  have n4 : ∀ c, nxt (q + 2) c = 99 := fun c => nxt_99 (by omega) (by omega)
  rw [outA_go h1 (by omega)]
  match r with
  | [] => rw [outA_nil, ho.1]; simp [lcp]
  | c2 :: r =>
    by_cases e2 : c2 = b2
    · subst e2
      rw [outA_go h2 (by omega)]
      match r with
      | [] => rw [outA_nil, ho.2.1]; simp [lcp]
      | c3 :: r =>
        by_cases e3 : c3 = b3
        · subst e3
          rw [outA_go h3 (by omega)]
          match r with
          | [] => rw [outA_nil, ho.2.2]; simp [lcp]
          | c4 :: r => rw [outA_dead (n4 c4)]; simp [lcp]
        · rw [outA_dead (n3 c3 e3)]; simp [lcp, e3]
    · rw [outA_dead (n2 c2 e2)]; simp [lcp, e2]
theorem numS_other {c : UInt8} {r : List UInt8} (hd : isDig c = false) (hp : c ≠ 46) : numS (c :: r) = (false, 0) := by
  have h1 : (c :: r).takeWhile isDig = [] := List.takeWhile_cons_of_neg (by simp [hd])
  have h2 : (c :: r).dropWhile isDig = c :: r := List.dropWhile_cons_of_neg (by simp [hd])
  unfold numS
  rw [h2]
  split
  · rename_i r' heq
    injection heq with e1 e2
    exact absurd e1 hp
  · simp [h1]
theorem lcp_head {c : UInt8} {r : List UInt8} {d : UInt8} {s : List UInt8} (h : c ≠ d) : lcp (c :: r) (d :: s) = 0 := by simp [lcp, h]
/-- A text behind its sign, by states and by parts. -/
theorem outA_body (st : Nat) (hst : st = 0 ∨ st = 1) (t : List UInt8) (hs : ∀ c r, t = c :: r → c = 45 → st = 1) : (outA st t).1 = (bodyS t).1 ∧ ((outA st t).1 = false → (outA st t).2 = (bodyS t).2) := by
  have word : ∀ (b1 b2 b3 : UInt8) (q : Nat) (r : List UInt8), nxt st b1 = q → nxt q b2 = q + 1 → nxt (q + 1) b3 = q + 2 → (q = 10 ∨ q = 20 ∨ q = 30) → (∀ c, c ≠ b2 → nxt q c = 99) → (∀ c, c ≠ b3 → nxt (q + 1) c = 99) → isDig b1 = false → b1 ≠ 46 →
      (wordK (b1 :: r) ≠ 0 ↔ b1 :: r = [b1, b2, b3]) → wordN (b1 :: r) = lcp (b1 :: r) [b1, b2, b3] → (outA st (b1 :: r)).1 = (bodyS (b1 :: r)).1 ∧ ((outA st (b1 :: r)).1 = false → (outA st (b1 :: r)).2 = (bodyS (b1 :: r)).2) := by
    intro b1 b2 b3 q r h1 h2 h3 hq n2 n3 hd hp hk hn
    rw [outA_three h1 h2 h3 hq n2 n3 r]
    unfold bodyS
    by_cases h : b1 :: r = [b1, b2, b3]
    · rw [if_pos (hk.2 h)]
      simp [h]
    · rw [if_neg (fun e => h (hk.1 e)), numS_other hd hp, hn]
      simp [h]
  match t with
  | [] =>
    rcases hst with rfl | rfl <;> exact ⟨rfl, fun _ => rfl⟩
  | c :: r =>
    by_cases e1 : c = 105
    · subst e1
      refine word 105 110 102 10 r (by rcases hst with rfl | rfl <;> decide) (by decide) (by decide) (by simp) (fun c h => nxt_99 (by decide) (by simp [h])) (fun c h => nxt_99 (by decide) (by simp [h])) (by decide) (by decide) ?_ ?_
      · unfold wordK
        by_cases h : (105 : UInt8) :: r = wINF
        · rw [if_pos h]; exact ⟨fun _ => h, fun _ => by decide⟩
        · rw [if_neg h, if_neg (by unfold wNAN; simp), if_neg (by unfold wNAR; simp)]
          exact ⟨fun e => absurd rfl e, fun e => absurd e h⟩
      · unfold wordN wNAN wNAR wINF
        rw [lcp_head (d := 110) (by decide), lcp_head (d := 78) (by decide)]
        simp
    · by_cases e2 : c = 110
      · subst e2
        refine word 110 97 110 20 r (by rcases hst with rfl | rfl <;> decide) (by decide) (by decide) (by simp) (fun c h => nxt_99 (by decide) (by simp [h])) (fun c h => nxt_99 (by decide) (by simp [h])) (by decide) (by decide) ?_ ?_
        · unfold wordK
          rw [if_neg (by unfold wINF; simp)]
          by_cases h : (110 : UInt8) :: r = wNAN
          · rw [if_pos h]; exact ⟨fun _ => h, fun _ => by decide⟩
          · rw [if_neg h, if_neg (by unfold wNAR; simp)]
            exact ⟨fun e => absurd rfl e, fun e => absurd e h⟩
        · unfold wordN wNAN wNAR wINF
          rw [lcp_head (d := 105) (by decide), lcp_head (d := 78) (by decide)]
          simp
      · by_cases e3 : c = 78
        · subst e3
          refine word 78 97 82 30 r (by rcases hst with rfl | rfl <;> decide) (by decide) (by decide) (by simp) (fun c h => nxt_99 (by decide) (by simp [h])) (fun c h => nxt_99 (by decide) (by simp [h])) (by decide) (by decide) ?_ ?_
          · unfold wordK
            rw [if_neg (by unfold wINF; simp), if_neg (by unfold wNAN; simp)]
            by_cases h : (78 : UInt8) :: r = wNAR
            · rw [if_pos h]; exact ⟨fun _ => h, fun _ => by decide⟩
            · rw [if_neg h]
              exact ⟨fun e => absurd rfl e, fun e => absurd e h⟩
          · unfold wordN wNAN wNAR wINF
            rw [lcp_head (d := 105) (by decide), lcp_head (d := 110) (by decide)]
            simp
        · have hk : wordK (c :: r) = 0 := by
            unfold wordK
            rw [if_neg (by unfold wINF; simp [e1]), if_neg (by unfold wNAN; simp [e2]), if_neg (by unfold wNAR; simp [e3])]
          have hn : wordN (c :: r) = 0 := by
            unfold wordN wNAN wNAR wINF
            rw [lcp_head e1, lcp_head e2, lcp_head e3]; rfl
          have hb : bodyS (c :: r) = ((numS (c :: r)).1, (numS (c :: r)).2) := by
            unfold bodyS
            rw [if_neg (by simp [hk]), hn, Nat.zero_max]
          rw [hb]
          by_cases e4 : c = 45
          · subst e4
            obtain rfl := hs 45 r rfl rfl
            rw [outA_dead (by decide), numS_other (by decide) (by decide)]
            exact ⟨rfl, fun _ => rfl⟩
          · rw [outA_num st hst (c :: r) (fun c' r' e => by injection e with q1 q2; subst q1; exact ⟨e1, e2, e3, e4⟩)]
            exact ⟨rfl, fun _ => rfl⟩
/-- A whole text: is it one; where it goes wrong. -/
def textS (l : List UInt8) : Bool × Nat :=
  match l with
  | 45 :: t => ((bodyS t).1, (bodyS t).2 + 1)
  | t => bodyS t
theorem outA_text (l : List UInt8) : (outA 0 l).1 = (textS l).1 ∧ ((outA 0 l).1 = false → (outA 0 l).2 = (textS l).2) := by
  unfold textS
  split
  · rename_i t
    obtain ⟨h1, h2⟩ := outA_body 1 (.inr rfl) t (fun _ _ _ _ => rfl)
    rw [outA_go (st := 0) (st' := 1) (by decide) (by decide)]
    exact ⟨h1, fun e => by show _ + 1 = _ + 1; rw [h2 e]⟩
  · rename_i hne
    exact outA_body 0 (.inl rfl) l (fun c r e e2 => by subst e2; exact absurd e (hne r))
end Go.Cal
