/- Plain: what is written is read as it is; unlike digits have unlike texts; what Scan makes of them. Conditions: none. -/
/- Plain: the document's states with what they gather, and what it is worth. Conditions: none. -/
import Derived.Test.YtncfbleeidjflaaGreatDoorPz04
namespace Go.Cal
open Go.Lib
structure Dgt (d : Nat) (k : Int) : Prop where
  pos : 0 < d
  ten : d % 10 ≠ 0
  len : (decDigits d).length ≤ 2000
  lo : -5000 ≤ k
  hi : k ≤ 5000
theorem DRight.cases {d : Nat} {k : Int} (h : DRight d k) : (d = 0 ∧ k = 0) ∨ Dgt d k := by
  rcases h with h | ⟨h1, h2, h3, h4, h5⟩
  · exact .inl h
  · exact .inr ⟨h1, h2, h3, h4, h5⟩
theorem Dgt.right {d : Nat} {k : Int} (h : Dgt d k) : DRight d k := .inr ⟨h.pos, h.ten, h.len, h.lo, h.hi⟩
theorem Dgt.ok {d : Nat} {k : Int} (h : Dgt d k) : pOkL (decDigits d) = true := by
  have h1 : (decDigits d).isEmpty = false := by simpa using dec_ne d
  have h2 : ((decDigits d).head? == some 48) = false := by simpa using dec_head h.pos
  have h3 : (decDigits d).all isDig = true := List.all_eq_true.2 (dec_digs d)
  unfold pOkL
  rw [h1, h2, h3, decide_eq_true h.len]
  rfl
theorem powS_num {k : Int} (h : -10000 ≤ k ∧ k ≤ 10000) : powS (numT k) = some k := by
  unfold powS
  rw [atoi_num (by omega)]
  show (if _ then some k else none) = _
  rw [if_pos (by omega)]
theorem LyP.cut {S W P : List UInt8} {k k0 : Int} {pt ex : Bool} {a b : Nat} (h : LyP S k pt ex W P k0 a b) (hd : ∀ c ∈ S, isDig c = true) : candA (lyB S k) = some k0 ∧ candD (lyB S k) = (W, P) := by
  have hW := h.digW hd
  have hP := h.digP hd
  have hA : (101 : UInt8) ∉ W ++ (if pt = true then 46 :: P else []) := by
    intro hc
    rcases List.mem_append.1 hc with hc | hc
    · exact dig_no hW (by decide) hc
    · split at hc
      · rcases List.mem_cons.1 hc with hc | hc
        · exact absurd hc (by decide)
        · exact dig_no hP (by decide) hc
      · cases hc
  have h1 : cutC 101 (lyB S k) = (W ++ (if pt = true then 46 :: P else []), (if ex = true then numT k0 else []), ex) := by
    rw [h.eq, ← List.append_assoc]
    cases ex
    · have e1 : (if false = true then (101 : UInt8) :: numT k0 else []) = [] := rfl
      have e2 : (if false = true then numT k0 else []) = [] := rfl
      rw [e1, e2, List.append_nil]
      exact cutC_none hA
    · have e1 : (if true = true then (101 : UInt8) :: numT k0 else []) = 101 :: numT k0 := rfl
      have e2 : (if true = true then numT k0 else []) = numT k0 := rfl
      rw [e1, e2]
      exact cutC_some hA
  have h2 : cutC 46 (W ++ (if pt = true then 46 :: P else [])) = (W, P, pt) := by
    cases hp : pt
    · rw [if_neg (by simp), List.append_nil, h.np hp]
      exact cutC_none (dig_no hW (by decide))
    · rw [if_pos rfl]
      exact cutC_some (dig_no hW (by decide))
  refine ⟨?_, ?_⟩
  · unfold candA
    rw [h1]
    cases he : ex
    · rw [if_neg (by simp), h.ne he]
    · rw [if_pos rfl]
      exact powS_num h.lo
  · unfold candD
    rw [h1]
    simp only
    rw [h2]
theorem lyS_pos {d : Nat} (h : 0 < d) (k : Int) : lyS d k = lyB (decDigits d) k := by unfold lyS; rw [if_neg (by omega)]
end Go.Cal
namespace Go.Cal
/-- What the document's machine holds. -/
structure Mac where
  st : Nat
  neg : Bool
  ds : List UInt8
  ex : Nat
  bh : Nat
  less : Bool
def CR : Nat := 1099511627776
/-- A byte more. -/
def Mac.step (m : Mac) (c : UInt8) : Mac :=
  ⟨nxt m.st c, if nxt m.st c = 1 then true else m.neg, if nxt m.st c = 2 ∨ nxt m.st c = 5 then m.ds ++ [c] else m.ds, if nxt m.st c = 8 then min (10 * m.ex + c.toNat - 48) CR else m.ex,
    if nxt m.st c = 5 then m.bh + 1 else m.bh, if nxt m.st c = 7 then c == 45 else m.less⟩
def Mac.run (m : Mac) (l : List UInt8) : Mac := l.foldl Mac.step m
theorem run_append (m : Mac) (a b : List UInt8) : m.run (a ++ b) = (m.run a).run b := by unfold Mac.run; rw [List.foldl_append]
theorem run_snoc (m : Mac) (a : List UInt8) (c : UInt8) : m.run (a ++ [c]) = (m.run a).step c := run_append m a [c]
/-- The machine's beginning. -/
def mac0 : Mac := ⟨0, false, [], 0, 0, false⟩
end Go.Cal
