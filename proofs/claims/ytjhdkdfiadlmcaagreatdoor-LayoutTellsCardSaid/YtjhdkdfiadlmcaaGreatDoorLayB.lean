/- Plain: how digits are written, and what digits a text has, second part. Conditions: none. -/
import Derived.Test.YtjhdkdfiadlmcaaGreatDoorLayA
namespace Go.Cal
open Go.Lib
/-- The digits S, times ten to the power of k, as they are written. -/
def lyB (S : List UInt8) (k : Int) : List UInt8 :=
  if 0 ≤ k ∧ (S.length : Int) + k ≤ 21 then S ++ List.replicate k.toNat 48
  else if 0 < (S.length : Int) + k ∧ (S.length : Int) + k ≤ 21 then S.take ((S.length : Int) + k).toNat ++ 46 :: S.drop ((S.length : Int) + k).toNat
  else if -6 < (S.length : Int) + k ∧ (S.length : Int) + k ≤ 0 then 48 :: 46 :: (List.replicate (-((S.length : Int) + k)).toNat 48 ++ S)
  else if S.length = 1 then S ++ 101 :: numT ((S.length : Int) + k - 1)
  else S.take 1 ++ 46 :: (S.drop 1 ++ 101 :: numT ((S.length : Int) + k - 1))
def lyS (d : Nat) (k : Int) : List UInt8 := if d = 0 then [48] else lyB (decDigits d) k
def lyT (neg : Bool) (d : Nat) (k : Int) : List UInt8 := (if neg = true then [45] else []) ++ lyS d k
/-- Are digits right (of a number that is normal)? -/
def DRight (d : Nat) (k : Int) : Prop := (d = 0 ∧ k = 0) ∨ (0 < d ∧ d % 10 ≠ 0 ∧ (decDigits d).length ≤ 2000 ∧ -5000 ≤ k ∧ k ≤ 5000)
instance (d : Nat) (k : Int) : Decidable (DRight d k) := by unfold DRight; exact inferInstance
/-- How the text of digits is put together. -/
structure LyP (S : List UInt8) (k : Int) (pt ex : Bool) (W P : List UInt8) (k0 : Int) (a b : Nat) : Prop where
  eq : lyB S k = W ++ ((if pt = true then 46 :: P else []) ++ (if ex = true then 101 :: numT k0 else []))
  np : pt = false → P = []
  ne : ex = false → k0 = 0
  all : W ++ P = List.replicate a 48 ++ (S ++ List.replicate b 48)
  kk : k = k0 + b - P.length
  w : W ≠ []
  lo : -10000 ≤ k0 ∧ k0 ≤ 10000
  far : ex = true ↔ 21 < (S.length : Int) + k ∨ (S.length : Int) + k < -5
  point : pt = true ↔ (ex = true ∧ 1 < S.length) ∨ (ex = false ∧ k < 0)
theorem lyB_parts {S : List UInt8} {k : Int} (h0 : S ≠ []) (hl : S.length ≤ 2000) (hk : -5000 ≤ k ∧ k ≤ 5000) : ∃ pt ex W P k0 a b, LyP S k pt ex W P k0 a b := by
  have hS := List.length_pos_iff.2 h0
  obtain ⟨n, hn⟩ : ∃ n, S.length = n := ⟨_, rfl⟩
  rw [hn] at hl hS
  by_cases c1 : 0 ≤ k ∧ (n : Int) + k ≤ 21
  · refine ⟨false, false, S ++ List.replicate k.toNat 48, [], 0, 0, k.toNat, ⟨?_, fun _ => rfl, fun _ => rfl, by simp, ?_, by simp [h0], by omega, ?_, ?_⟩⟩
    · unfold lyB; rw [hn, if_pos c1]; simp
    · simp; omega
    · rw [hn]; simp; omega
    · simp; omega
  · by_cases c2 : 0 < (n : Int) + k ∧ (n : Int) + k ≤ 21
    · refine ⟨true, false, S.take ((n : Int) + k).toNat, S.drop ((n : Int) + k).toNat, 0, 0, 0, ⟨?_, by simp, fun _ => rfl, by simp, ?_, ?_, by omega, ?_, ?_⟩⟩
      · unfold lyB; rw [hn, if_neg c1, if_pos c2]; simp
      · rw [List.length_drop, hn]; omega
      · intro e
        have := congrArg List.length e
        rw [List.length_take, hn] at this
        simp only [List.length_nil] at this
        omega
      · rw [hn]; simp; omega
      · simp; omega
    · by_cases c3 : -6 < (n : Int) + k ∧ (n : Int) + k ≤ 0
      · refine ⟨true, false, [48], List.replicate (-((n : Int) + k)).toNat 48 ++ S, 0, (-((n : Int) + k)).toNat + 1, 0, ⟨?_, by simp, fun _ => rfl, ?_, ?_, by simp, by omega, ?_, ?_⟩⟩
        · unfold lyB; rw [hn, if_neg c1, if_neg c2, if_pos c3]; simp
        · rw [List.replicate_succ]; simp
        · rw [List.length_append, List.length_replicate, hn]; omega
        · rw [hn]; simp; omega
        · simp; omega
      · by_cases c4 : n = 1
        · refine ⟨false, true, S, [], (n : Int) + k - 1, 0, 0, ⟨?_, fun _ => rfl, by simp, by simp, ?_, h0, by omega, ?_, ?_⟩⟩
          · unfold lyB; rw [hn, if_neg c1, if_neg c2, if_neg c3, if_pos c4]; simp
          · simp; omega
          · rw [hn]; simp; omega
          · rw [hn]; simp; omega
        · refine ⟨true, true, S.take 1, S.drop 1, (n : Int) + k - 1, 0, 0, ⟨?_, by simp, by simp, by rw [List.take_append_drop]; simp, ?_, ?_, by omega, ?_, ?_⟩⟩
          · unfold lyB; rw [hn, if_neg c1, if_neg c2, if_neg c3, if_neg c4]; simp
          · rw [List.length_drop, hn]; omega
          · intro e
            have := congrArg List.length e
            rw [List.length_take, hn] at this
            simp only [List.length_nil] at this
            omega
          · rw [hn]; simp; omega
          · rw [hn]; simp; omega
section
variable {S W P : List UInt8} {k k0 : Int} {pt ex : Bool} {a b : Nat}
theorem LyP.digW (h : LyP S k pt ex W P k0 a b) (hd : ∀ c ∈ S, isDig c = true) : ∀ c ∈ W, isDig c = true := fun c hc => by
  have h1 : c ∈ W ++ P := List.mem_append.2 (.inl hc)
  rw [h.all] at h1
  exact dig_app (dig_zero a) (dig_app hd (dig_zero b)) c h1
theorem LyP.digP (h : LyP S k pt ex W P k0 a b) (hd : ∀ c ∈ S, isDig c = true) : ∀ c ∈ P, isDig c = true := fun c hc => by
  have h1 : c ∈ W ++ P := List.mem_append.2 (.inr hc)
  rw [h.all] at h1
  exact dig_app (dig_zero a) (dig_app hd (dig_zero b)) c h1
end
theorem dig_no {l : List UInt8} (hd : ∀ c ∈ l, isDig c = true) {c : UInt8} (hc : isDig c = false) : c ∉ l := fun h => by rw [hd c h] at hc; cases hc
theorem numT_no {c : UInt8} (hc : isDig c = false) (h45 : c ≠ 45) (n : Int) : c ∉ numT n := by
  unfold numT
  split
  · intro h
    rcases List.mem_cons.1 h with h | h
    · exact h45 h
    · exact dig_no (dec_digs _) hc h
  · exact dig_no (dec_digs _) hc
theorem dec_last {d : Nat} (h : d % 10 ≠ 0) : (decDigits d).getLast? ≠ some 48 := by
  intro e
  obtain ⟨r, c, h1⟩ := snoc_of (dec_ne d)
  rw [h1, List.getLast?_concat] at e
  injection e with e
  subst e
  have h2 := numV_dec d
  rw [h1, numV_snoc] at h2
  simp at h2
  omega
/-- Digits that nat.Parse takes. -/
def pOkL (l : List UInt8) : Bool := !l.isEmpty && decide (l.length ≤ 2000) && (!(l.head? == some 48) || decide (l.length ≤ 1)) && l.all isDig
/-- What Unlay makes of a text: where none is wrong, the digits that it tries. -/
def powS (l : List UInt8) : Option Int := match atoiAll l with
  | .ok k => if max k (-k) < 20000 then some k else none
  | _ => none
def unT (l : List UInt8) : List UInt8 × Bool := match l with
  | 45 :: t => (t, true)
  | t => (t, false)
def candA (t : List UInt8) : Option Int := if (cutC 101 t).2.2 = true then powS (cutC 101 t).2.1 else some 0
def candD (t : List UInt8) : List UInt8 × List UInt8 := ((cutC 46 (cutC 101 t).1).1, (cutC 46 (cutC 101 t).1).2.1)
def candB (t : List UInt8) : Option (Nat × Int) :=
  (candA t).bind fun k0 =>
    let al := trL ((candD t).1 ++ (candD t).2)
    if trR al = [] then some (0, 0)
    else if pOkL (trR al) = true then some (numV (trR al), k0 + (((al.length : Int) - ((trR al).length : Int)) - ((candD t).2.length : Int))) else none
def unS (l : List UInt8) : Option (Bool × Nat × Int) := match candB (unT l).1 with
  | none => none
  | some (d, k) => if DRight d k ∧ lyT (unT l).2 d k = l then some ((unT l).2, d, k) else none
theorem unT_dig {l : List UInt8} (h : ∀ c r, l = c :: r → c ≠ 45) : unT l = (l, false) := by
  match l with
  | [] => rfl
  | c :: r =>
    have hc := h c r rfl
    unfold unT
    split
    · rename_i t e; injection e with e1 e2; exact absurd e1 hc
    · rfl
end Go.Cal
