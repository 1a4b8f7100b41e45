/- The walk of FormAll: the list of all forms is built by append in a loop; the statement reads it in a loop. Condition: the table of the forms stands in block 0. -/
import Derived.Test.YtmkhmmdomnhacaaDoorFormLaw
namespace Go.Proofs.YtmkhmmdomnhacaaDoor
open Go.RowKit Go.Cal

theorem info3 : (Tryd.prog.info? 3).map (fun i => (i.zero, i.size, i.bytes)) = some (some (.int .i64 0), 1, 8) := by kernel_rfl
def row (k : Nat) : List Value := (List.range (k - 1)).map fun (j : Nat) => Value.int .i64 ((j : Int) + 1)
theorem row_len (k : Nat) : (row k).length = k - 1 := by simp [row]
theorem row_succ (k : Nat) (h : 0 < k) : row (k + 1) = row k ++ [.int .i64 k] := by
  obtain ⟨m, rfl⟩ : ∃ m, k = m + 1 := ⟨k - 1, by omega⟩
  simp [row, List.range_succ]
theorem row_get {k j : Nat} (h : j + 1 < k) : (row k)[j]? = some (.int .i64 ((j : Int) + 1)) := by
  simp [row, show j < k - 1 by omega]
theorem row_rel {B k : Nat} {w wr w1 : World} {v v' : Value} {o : Obj} (hk : 0 < k) (hB : B ≤ wr.heap.size) (hown : wr.ownsRow B 3 1 v (k - 1) (row k)) (hnx : Below B w wr)
    (hown' : w1.ownsRow B 3 1 v' (k - 1 + 1) (row k ++ [.int .i64 k])) (hgrow : (wr.alloc o).grownBy w1 v.ownBlock) : w1.ownsRow B 3 1 v' (k + 1 - 1) (row (k + 1)) ∧ Below B w w1 := by
  refine ⟨by rw [row_succ k hk, show k + 1 - 1 = k - 1 + 1 by omega]; exact hown', (hnx.alloc (by omega) o).grown hgrow (by simp; omega) (fun j hj => by have := (hown.lt j hj).1; omega)⟩
theorem row_cells {B : Nat} {w : World} {v : Value} (h : w.ownsRow B 3 1 v (15 - 1) (row 15)) :
    ∃ g cap, v = .slice (some ⟨g, 0, none⟩) 14 cap ∧ B ≤ g ∧ g < w.heap.size ∧ ∀ j : Nat, j < 14 → w.cell? ⟨g, j, none⟩ = some (.int .i64 ((j : Int) + 1)) := by
  obtain ⟨_, ⟨_, h0⟩ | ⟨g, cap, cur, rfl, hg, hw, hn, hm, hs, ht⟩⟩ := h
  · omega
  · refine ⟨g, cap, rfl, hg, (Array.getElem?_eq_some_iff.1 hw).1, fun j hj => ?_⟩
    have e : cur.toList[j]? = some (.int .i64 ((j : Int) + 1)) := by
      rw [← row_get (k := 15) (j := j) (by omega), ← ht, List.getElem?_take_of_lt (by omega)]
    simp [World.cell?, hw, ← Array.getElem?_toList, e]

set_option maxHeartbeats 1600000 in
theorem all_any (w : World) : Calls Tryd.prog 19 #[] w fun e w' => ∃ g cap, e = .returned (.slice (some ⟨g, 0, none⟩) 14 cap) ∧ w.heap.size ≤ g ∧ g < w'.heap.size ∧ (∀ j : Nat, j < 14 → w'.cell? ⟨g, j, none⟩ = some (.int .i64 ((j : Int) + 1))) ∧ Below w.heap.size w w' := by
  obtain ⟨i0, hi, hz0, hz1, hz2⟩ := info_parts info3
  go_enter Tryd.func19, Tryd.ntmps19
  go_wp2
  go_loopw [0, 2] (fun v i wr => ∃ k : Nat, k ≤ 15 ∧ i = .int .i64 k ∧ wr.ownsRow w.heap.size 3 1 v (k - 1) (row k) ∧ Below w.heap.size w wr)
    (fun _ i _ => 15 - (intOf i).toNat)
  case atStart => exact ⟨0, Nat.zero_le _, rfl, World.ownsRow_nil _ _ _ _, Below.refl _ _⟩
  case round =>
    obtain ⟨k, hk, rfl, hown, hnx⟩ := hrel
    go_wp2_with (first
      | (at_builtin; refine wpList_append_own _ rfl _ _ 41 rfl w.heap.size 3 i0 (.int .i64 0) 1 8 Tryd.underlying41 hi hz0 hz1 hz2 rfl (by decide) _ _ _ rfl (hown.alloc _) ⟨wr.heap.size, 0, none⟩ 1 1 [.int .i64 k] rfl rfl ?c1 ?c2 ?c3 ?c4 ?c5 ?_))
    case c1 =>
      intro j u hj
      match j, hj with
      | 0, hj => simp at hj; subst hj; simp [Addr.add]
    case c2 => intro u hu; simp at hu; subst hu; rfl
    case c3 => unfold maxLen; omega
    case c4 => omega
    case c5 => have := hnx.size; simp; omega
    · intro v' w1 hown' hgrow _
      have hlt : 0 < k := by omega
      have R := row_rel hlt hnx.size hown hnx hown' hgrow
      clear hown' hgrow hown
      go_wp2
      go_roundw
      case rel => exact ⟨k + 1, by omega, by go_num, R.1, R.2⟩
      case measure => simp [intOf]; omega
    · have h0 : k = 0 := by omega
      subst h0
      go_roundw
      case rel => exact ⟨1, by omega, by go_num, hown, hnx⟩
      case measure => simp [intOf]
    · have h15 : k = 15 := by omega
      subst h15
      obtain ⟨g, cap, rfl, hg, hl, hc⟩ := row_cells hown
      go_ret
      exact ⟨g, cap, rfl, hg, hl, hc, hnx⟩

def Drawn (w w' : World) : Prop := ∃ n, w' = w.drewN n
theorem Drawn.refl (w : World) : Drawn w w := ⟨0, rfl⟩
theorem Drawn.drewN {w w' : World} (h : Drawn w w') (n : Nat) : Drawn w (w'.drewN n) := by
  obtain ⟨k, rfl⟩ := h
  exact ⟨k + n, World.drewN_drewN _ _ _⟩
theorem Drawn.below {w w' : World} (h : Drawn w w') (B : Nat) : Below B w w' := by
  obtain ⟨k, rfl⟩ := h
  exact ⟨rfl, rfl, rfl, Nat.le_refl _, fun _ _ => rfl⟩
def isV (id : Int) (k : Nat) : Bool := decide (1 ≤ id) && decide (id ≤ k)
theorem isV_zero (id : Int) : isV id 0 = false := by unfold isV; by_cases h : 1 ≤ id <;> simp [h]; omega
theorem isV_succ_hit (k : Nat) : isV ((k : Int) + 1) (k + 1) = true := by unfold isV; simp; omega
theorem isV_succ_miss {id : Int} {k : Nat} (h : (k : Int) + 1 ≠ id) : isV id (k + 1) = isV id k := by
  unfold isV
  have e : (id ≤ ((k + 1 : Nat) : Int)) = (id ≤ (k : Int)) := by apply propext; omega
  simp only [e]
theorem isV_hit {id : Int} {k : Nat} (h : isV id k = true) : isV id (k + 1) = true := by
  unfold isV at h ⊢
  simp at h ⊢
  omega
theorem isV_step {id : Int} {k : Nat} (h : ¬isV id k = true) : ((k : Int) + 1 == id) = isV id (k + 1) := by
  by_cases e : (k : Int) + 1 = id
  · subst e; rw [isV_succ_hit]; simp
  · rw [isV_succ_miss e, show isV id k = false by simpa using h]; simpa using e
theorem isV_out {id : Int} (h : id < 1 ∨ 15 ≤ id) : isV id 14 = false := by unfold isV; simp; omega
theorem isV_in {id : Int} (h1 : 1 ≤ id) (h2 : id < 15) : isV id 14 = true := by unfold isV; simp; omega
set_option maxHeartbeats 1600000 in
theorem formAll_any (id : Int) (w : World) (hT : TabF w) :
    Calls Tryd.prog 7 #[.int .i64 id] w fun e w' => e = .returned (.bool true) ∧ Below w.heap.size w w' := by
  go_enter Tryd.func7, Tryd.ntmps7
  go_wp2_with fail
  refine (shown_any _ hT).mono ?_
  rintro e w1 ⟨rfl, hb1⟩; have hz1 := hb1.size; (try simp at hz1); (try replace hz1 := Nat.lt_of_succ_le hz1); obtain ⟨hc1, hf1⟩ := bcell hb1
  have hT1 := hT.below hb1
  go_wp2_with fail
  refine (all_any _).mono ?_
  rintro e w2 ⟨g, cap, rfl, hg, hl, hcl, hb2⟩
  have hT2 := hT1.below hb2
  have hb12 := chain hb1 hb2
  clear hT hT1 hb1 hb2 hz1 hc1 hf1 hg
  go_wp2
  go_loopw [5, 6] (fun s i wr => ∃ k : Nat, k ≤ 14 ∧ i = .int .i64 k ∧ s = .bool (isV id k) ∧ Drawn w2 wr) (fun _ i _ => 14 - (intOf i).toNat)
  case atStart => exact ⟨0, Nat.zero_le _, rfl, by rw [isV_zero], .refl _⟩
  case round =>
    obtain ⟨k, hk, rfl, rfl, hdw⟩ := hrel
    have hcr : ∀ j : Nat, j < 14 → wr.cell? ⟨g, j, none⟩ = some (.int .i64 ((j : Int) + 1)) := fun j hj => by
      obtain ⟨n, rfl⟩ := hdw
      exact hcl j hj
    by_cases h14 : k = 14
    · subst h14
      clear hcr hcl hk
      have hTr := hT2.below (hdw.below _)
      have hbr := hb12.trans (hdw.below _)
      by_cases h : id < 1 ∨ 15 ≤ id
      · rw [isV_out h]
        rcases h with h | h
        all_goals
          go_wp2_with fail
          refine (of_no _ _ (by omega)).mono ?_
          rintro e w3 ⟨rfl, hb3⟩; have hz3 := hb3.size; (try simp at hz3); (try replace hz3 := Nat.lt_of_succ_le hz3); obtain ⟨hc3, hf3⟩ := bcell hb3
          go_wp2
          go_ret
          exact ⟨by simp; try omega, chainA (chain hbr hb3) _⟩
      · have h1 : 1 ≤ id := by omega
        have h2 : id < 15 := by omega
        have h3 : id ≤ 14 := by omega
        rw [isV_in h1 h2]
        go_wp2_with fail
        refine (of_yes _ _ hTr h1 h2).mono ?_
        rintro e w3 ⟨rfl, hb3⟩; have hz3 := hb3.size; (try simp at hz3); (try replace hz3 := Nat.lt_of_succ_le hz3); obtain ⟨hc3, hf3⟩ := bcell hb3
        go_wp2
        go_ret
        exact ⟨by simp; try omega, chainA (chain hbr hb3) _⟩
    · have hk14 : (k : Int) < 14 := by omega
      have hxk := hcr k (by omega)
      rcases Nat.eq_zero_or_pos k with rfl | hpos
      · clear hcr hcl
        go_wp2_with fail
        go_quiet (fail)
        go_wp2
        · go_roundw
          case rel => exact ⟨1, by omega, by go_num, by rw [isV_hit (by assumption)], hdw.drewN _⟩
          case measure => simp [intOf]
        · go_roundw
          case rel => exact ⟨1, by omega, by go_num, by rw [← isV_step (by assumption)]; rfl, hdw.drewN _⟩
          case measure => simp [intOf]
      · obtain ⟨m, rfl⟩ : ∃ m, k = m + 1 := ⟨k - 1, by omega⟩
        have hxm := hcr m (by omega)
        clear hcr hcl
        go_wp2_with fail
        go_quiet (fail)
        go_wp2
        · go_roundw
          case rel => exact ⟨m + 2, by omega, by go_num, by rw [isV_hit (by assumption)], hdw.drewN _⟩
          case measure => simp [intOf]; omega
        · go_roundw
          case rel => exact ⟨m + 2, by omega, by go_num, by rw [← isV_step (by assumption)]; rfl, hdw.drewN _⟩
          case measure => simp [intOf]; omega
end Go.Proofs.YtmkhmmdomnhacaaDoor
