/- The nat layer: Text. Conditions: lengths below 2^32; the table of powers reads as it is laid. -/
import Derived.Test.YtncfbleeidjflaaGreatDoorSu13
import Derived.Test.YtncfbleeidjflaaGreatDoorSu03
import Derived.Lib.EndianMore
import Derived.Deep.LoopGhost
import Derived.RangeFuncBox
namespace Go.Proofs.YtncfbleeidjflaaGreatDoor
open Go.RowKit Go.Cal
/-- At the head of a round: what is left of the number, and the chunks so far, the lowest first. -/
structure TextRel (N N' : Nat) (ps : List (List UInt8)) : Prop where
  txt : Lib.decDigits N = Lib.decDigits N' ++ ps.reverse.flatten
  cnt : N' * 2 ^ ps.length ≤ N
  pos : ps = [] ∨ 1 ≤ N'
theorem TextRel.start (N : Nat) : TextRel N N [] := ⟨by simp, by simp, .inl rfl⟩
theorem TextRel.step {N N' : Nat} {ps : List (List UInt8)} (h : TextRel N N' ps) (hN : 10000000000000000000 ≤ N') :
    TextRel N (N' / 10000000000000000000) (ps ++ [List.replicate (19 - (Lib.decDigits (N' % 10000000000000000000)).length) 48 ++ Lib.decDigits (N' % 10000000000000000000)]) := by
  have hq : 1 ≤ N' / 10000000000000000000 := by omega
  refine ⟨?_, ?_, .inr hq⟩
  · have e := dec_chunk (q := N' / 10000000000000000000) (r := N' % 10000000000000000000) (k := 19) hq (by omega) (Nat.mod_lt _ (by omega))
    have e2 : N' / 10000000000000000000 * 10 ^ 19 + N' % 10000000000000000000 = N' := by rw [show 10 ^ 19 = 10000000000000000000 from rfl]; omega
    rw [e2] at e
    rw [h.txt, e]
    simp
  · have h1 := h.cnt
    have h2 : N' / 10000000000000000000 * 2 ≤ N' := by omega
    simp only [List.length_append, List.length_singleton, Nat.pow_succ]
    have h3 := Nat.mul_le_mul_right (2 ^ ps.length) h2
    rw [Nat.mul_assoc, Nat.mul_comm 2] at h3
    omega
theorem TextRel.few {N N' k : Nat} {ps : List (List UInt8)} (h : TextRel N N' ps) (hN : N < 2 ^ k) : ps.length ≤ k := by
  rcases h.pos with rfl | h1
  · simp
  · rcases Nat.lt_or_ge k ps.length with hlt | hge
    · exfalso
      have h2 := h.cnt
      have h3 : 2 ^ k ≤ 2 ^ ps.length := Nat.pow_le_pow_right (by omega) (by omega)
      have h4 : 1 * 2 ^ ps.length ≤ N' * 2 ^ ps.length := Nat.mul_le_mul_right _ h1
      omega
    · exact hge
end Go.Proofs.YtncfbleeidjflaaGreatDoor
