/- Values: a pattern's class, Decode, walked. Conditions: the variables that values read. -/
import Derived.Test.YtdlkfnkmdlcekaaGreatDoorValD
namespace Go.Proofs.YtdlkfnkmdlcekaaGreatDoor
open Go.RowKit Go.Cal
theorem class_cases (id p : Int) : 
    ((fK id == 2) = true ∧ (fK id != 2) = false ∧ (partK id p == fI id) = true ∧ (fI id != 0) = true ∧ classV id p = 3) ∨
    ((fK id == 2) = true ∧ (fK id != 2) = false ∧ (fK id != 4) = true ∧ ((partK id p == fI id) = false ∨ (partK id p == fI id) = true ∧ (fI id != 0) = false) ∧
      ((fT id < partK id p ∧ classV id p = 4) ∨ (¬ fT id < partK id p ∧ (partK id p == 0) = true ∧ classV id p = 1) ∨ (¬ fT id < partK id p ∧ (partK id p == 0) = false ∧ classV id p = 2))) ∨
    ((fK id == 2) = false ∧ (fK id != 2) = true ∧
      (((fN id != 0) = true ∧ (p == fN id) = true ∧ classV id p = 4) ∨
       (((fN id != 0) = false ∨ (fN id != 0) = true ∧ (p == fN id) = false) ∧
         (((partK id p == 0) = true ∧ (fK id != 4) = true ∧ classV id p = 1) ∨ ((partK id p == 0) = true ∧ (fK id != 4) = false ∧ classV id p = 2) ∨ ((partK id p == 0) = false ∧ classV id p = 2))))) := by
  unfold classV
  generalize partK id p = key
  by_cases hk : fK id = 2
  · by_cases hi : key = fI id ∧ fI id ≠ 0
    · left; rw [if_pos ⟨hk, hi⟩]; simp [hk, hi.1, hi.2]
    · right; left
      rw [if_neg (fun h => hi ⟨h.2.1, h.2.2⟩)]
      refine ⟨by simp [hk], by simp [hk], by simp [hk], ?_, ?_⟩
      · by_cases hx : key = fI id
        · right; refine ⟨by simp [hx], ?_⟩; simp; exact Classical.byContradiction fun h => hi ⟨hx, h⟩
        · left; simp [hx]
      · by_cases ht : fT id < key
        · left; rw [if_pos (.inl ⟨hk, ht⟩)]; exact ⟨ht, rfl⟩
        · right
          rw [if_neg (fun h => by rcases h with h | h; exact ht h.2; exact h.1 hk)]
          by_cases h0 : key = 0
          · left; rw [if_pos ⟨h0, by omega⟩]; exact ⟨ht, by simp [h0], rfl⟩
          · right; rw [if_neg (fun h => h0 h.1)]; exact ⟨ht, by simp [h0], rfl⟩
  · right; right
    refine ⟨by simp [hk], by simp [hk], ?_⟩
    rw [if_neg (fun h => hk h.1)]
    by_cases hn : fN id ≠ 0 ∧ p = fN id
    · left; rw [if_pos (.inr ⟨hk, hn⟩)]; exact ⟨by simp [hn.1], by simp [hn.2], rfl⟩
    · right
      rw [if_neg (fun h => by rcases h with h | h; exact hk h.1; exact hn h.2)]
      refine ⟨?_, ?_⟩
      · by_cases h0 : fN id = 0
        · left; simp [h0]
        · right; refine ⟨by simp [h0], ?_⟩; simp; exact fun h => hn ⟨h0, h⟩
      · by_cases h0 : key = 0
        · by_cases h4 : fK id = 4
          · right; left; rw [if_neg (fun h => h.2 h4)]; exact ⟨by simp [h0], by simp [h4], rfl⟩
          · left; rw [if_pos ⟨h0, h4⟩]; exact ⟨by simp [h0], by simp [h4], rfl⟩
        · right; right; rw [if_neg (fun h => h0 h.1)]; exact ⟨by simp [h0], rfl⟩
set_option maxRecDepth 100000 in
set_option maxHeartbeats 1000000 in
theorem vclass_any (id p : Int) (w : World) :
    Calls Tryz.prog 39 #[.agg #[.int .i64 (fK id), .int .i64 (fW id), .int .i64 (fM id), .int .i64 (fB id), .int .u64 (fT id), .int .u64 (fI id), .int .u64 (fN id), .func (.func (numI (fK id))) #[] #[]], .int .u64 p, .int .u64 (partK id p)] w fun e w' => e = .returned (.int .i64 (classV id p)) ∧ Below w.heap.size w w' := by
  have hc := class_cases id p
  generalize partK id p = key at hc ⊢
  rcases hc with ⟨k1, k2, k3, k4, hV⟩ | ⟨k1, k2, k3, k4, hV⟩ | ⟨k1, k2, hV⟩
  · rw [hV]
    go_enter Tryz.func39, Tryz.ntmps39
    go_wp2
    go_ret
    exact ⟨rfl, (Below.refl _ _).alloc (Nat.le_refl _) _⟩
  · rcases k4 with k4 | ⟨k4, k5⟩
    all_goals
      rcases hV with ⟨k6, hV⟩ | ⟨k6, k7, hV⟩ | ⟨k6, k7, hV⟩
      all_goals
        rw [hV]
        go_enter Tryz.func39, Tryz.ntmps39
        go_wp2
        go_ret
        exact ⟨rfl, (Below.refl _ _).alloc (Nat.le_refl _) _⟩
  · rcases hV with ⟨k3, k4, hV⟩ | ⟨k3 | ⟨k3, k4⟩, ⟨k5, k6, hV⟩ | ⟨k5, k6, hV⟩ | ⟨k5, hV⟩⟩
    all_goals
      rw [hV]
      go_enter Tryz.func39, Tryz.ntmps39
      go_wp2
      go_ret
      exact ⟨rfl, (Below.refl _ _).alloc (Nat.le_refl _) _⟩
/-- What Decode tells. -/
def decN (id p : Int) : Bool := if classV id p = 4 then false else partN id p
def decM (id p : Int) : Nat := if classV id p = 2 then (magV id 0 (partK id p).toNat).1 else 0
def decE (id p : Int) : Int := if classV id p = 2 then (magV id 0 (partK id p).toNat).2 else 0
theorem partK_nonneg {id p : Int} (hp0 : 0 ≤ p) : 0 ≤ partK id p := by
  unfold partK partN
  split
  · exact hp0
  · rename_i h
    split
    · simp at h; omega
    · exact Int.emod_nonneg _ (by have := pow_pos (fW id).toNat; omega)
/-- A number's magnitude is one. -/
theorem class_two {id p : Int} (h1 : 1 ≤ id) (h2 : id < 15) (hp0 : 0 ≤ p) (hp1 : p < 2 ^ (fW id).toNat) (hc : classV id p = 2) : partK id p ≤ fitM id ∧ partK id p ≤ mostV id (partN id p) ∧ (fK id ≠ 4 → partK id p ≠ 0) ∧ (partN id p = true → fK id ≠ 4) := by
  rcases id_cases h1 h2 with rfl | rfl | rfl | rfl | rfl | rfl | rfl | rfl | rfl | rfl | rfl | rfl | rfl | rfl <;>
    simp [classV, partK, partN, fitM, mostV, fK, fW, fT, fN, fI] at hp1 hc ⊢ <;> (repeat' split at hc) <;> simp_all <;> omega
end Go.Proofs.YtdlkfnkmdlcekaaGreatDoor
