/- The document's half words, tenth part: small steps for the laws' walks. Conditions: a number's words are counted. -/
import Derived.Test.YtniffclplmgcfaaGreatDoorRefI
namespace Go.Proofs.YtniffclplmgcfaaGreatDoor
open Go.RowKit Go.Cal
theorem plus_h {w : World} {v1 v2 : Value} {k1 k2 X Y : Nat} (h1 : IsH w v1 k1 X) (h2 : IsH w v2 k2 Y) (b1 : k1 ≤ 1048576) (b2 : k2 ≤ 1048576) : Calls Tryz.prog 14 #[v1, v2] w (TellsH w (max k1 k2 + 1) (X + Y)) := by
  refine plus_any (max k1 k2 + 1) w h1 h2 b1 b2 ?_
  have i1 := h1.lt
  have i2 := h2.lt
  have e1 : 4294967296 ^ k1 ≤ 4294967296 ^ max k1 k2 := Nat.pow_le_pow_right (by omega) (Nat.le_max_left _ _)
  have e2 : 4294967296 ^ k2 ≤ 4294967296 ^ max k1 k2 := Nat.pow_le_pow_right (by omega) (Nat.le_max_right _ _)
  rw [Nat.pow_succ]
  omega
theorem text_t {w : World} {v1 : Value} {k1 X : Nat} (hT : Tab10 w) (h : IsN w v1 k1 X) (b1 : k1 ≤ 1048576) :
    Calls Tryz.prog 33 #[v1] w fun e w' => e = .returned (.string ⟨(Lib.decDigits X).toArray⟩) ∧ Below w.heap.size w w' := by
  obtain ⟨A1, c1, z1, rfl, r1, hc1, hl1, d1, rfl⟩ := h
  exact text_any c1 w r1 hc1 (by omega) d1 hT
/-- The value's length, and when it is none. -/
theorem IsH.shape {w : World} {v : Value} {k N : Nat} (h : IsH w v k N) : ∃ A c n, v = .slice A n c ∧ (0 < n ↔ 0 < N) ∧ (∀ m, n ≤ m ↔ N < 4294967296 ^ m) := by
  obtain ⟨A, c, zs, rfl, h1, h2, h3, h4, h5⟩ := h
  refine ⟨A, c, zs.length, rfl, nrmH_pos h5, fun m => ⟨fun h => Nat.lt_of_lt_of_le h5.lt (Nat.pow_le_pow_right (by omega) h), fun h => h5.length_le h⟩⟩
end Go.Proofs.YtniffclplmgcfaaGreatDoor
