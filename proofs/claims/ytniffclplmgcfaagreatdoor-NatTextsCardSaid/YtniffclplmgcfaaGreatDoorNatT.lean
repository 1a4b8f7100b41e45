/- 'few' is a copy of so many words. Condition: a slice that is nil has no room. -/
import Derived.Test.YtniffclplmgcfaaGreatDoorNatS
namespace Go.Proofs.YtniffclplmgcfaaGreatDoor
open Go.RowKit Go.Cal
set_option maxRecDepth 100000 in
set_option maxHeartbeats 1000000 in
theorem few_some {b off : Nat} {xs : List Nat} (c n m : Nat) (w : World) (h : RdU w w.heap.size (some ⟨b, off, none⟩) xs) (hc : xs.length ≤ c) (hcm : c ≤ maxLen) (hm : min xs.length n = m) (hm0 : 0 < m) (hn : n ≤ 1048576) :
    Calls Tryz.prog 8 #[.slice (some ⟨b, off, none⟩) xs.length c, .int .i64 n] w fun e w' => ∃ v, e = .returned v ∧ w'.ownsRow w.heap.size 39 1 v m (lU (xs.take m)) ∧ Below w.heap.size w w' := by
  obtain ⟨i0, hi, hz0, hz1, hz2⟩ := info_parts info_u64
  unfold maxLen at hcm
  have hmi : min (xs.length : Int) (n : Int) = (m : Int) := by omega
  have hmc : (m : Int) ≤ (c : Int) := by omega
  have hml : (lU (xs.take m)).length = m := by rw [lU_len, List.length_take]; omega
  have hr := h.take m
  replace hml := Lib.hid hml
  replace hm := Lib.hid hm
  go_enter Tryz.func8, Tryz.ntmps8
  go_wp2_with (at_builtin; refine wpList_append_grows _ rfl _ _ 23 rfl 39 i0 (.int .u64 0) 1 8 under_nat hi hz0 hz1 hz2 rfl (by decide) (some ⟨w.heap.size, 0, none⟩) 0 0 [] rfl (fun h => by cases h) rfl ?hold ⟨b, off, none⟩ m c (lU (xs.take m)) rfl ?c1 ?c2 ?c3 ?c4 ?c5 ?c6 ?_)
  case hold => intro _ _ j u hj; simp at hj
  case c1 => rw [hml.out, Nat.mul_one]
  case c2 => intro j u hj; exact rd_cells hr (Nat.le_refl _) _ j u hj
  case c3 =>
    intro u hu
    simp only [lU, List.mem_map] at hu
    obtain ⟨x, _, rfl⟩ := hu
    rfl
  case c4 => omega
  case c5 => unfold maxLen; omega
  case c6 => omega
  intro v' w1 hown hgr
  go_wp2
  go_ret
  exact ⟨v', rfl, own_base (by simpa using hown) (by simp), ((Below.refl _ _).alloc (Nat.le_refl _) _).grown hgr (by simp) (fun j hj => by cases hj)⟩
set_option maxRecDepth 100000 in
set_option maxHeartbeats 1000000 in
theorem few_empty (a : Addr) (c n : Nat) (w : World) : Calls Tryz.prog 8 #[.slice (some a) 0 c, .int .i64 n] w fun e w' => ∃ g, e = .returned (.slice (some ⟨g, 0, none⟩) 0 0) ∧ Below w.heap.size w w' := by
  obtain ⟨i0, hi, hz0, hz1, hz2⟩ := info_parts info_u64
  have hmi : min (0 : Int) (n : Int) = 0 := by omega
  go_enter Tryz.func8, Tryz.ntmps8
  go_wp2_with (at_builtin; refine wpList_append_arg _ rfl _ _ 23 rfl 39 i0 (.int .u64 0) 1 8 under_nat hi hz0 hz1 hz2 rfl (by decide) w.heap.size 0 0 0 [] rfl rfl (fun j u hj => by simp at hj) a 0 c [] rfl rfl (fun j u hj => by simp at hj) (fun u hu => by simp at hu) (fun _ j hj => by simp at hj) (by unfold maxLen; omega) (by omega) (fun _ => ?_) (fun h => by omega))
  go_wp2
  go_ret
  exact ⟨_, rfl, (Below.refl _ _).alloc (Nat.le_refl _) _⟩
set_option maxRecDepth 100000 in
set_option maxHeartbeats 1000000 in
theorem few_none (n : Nat) (w : World) : Calls Tryz.prog 8 #[.slice none 0 0, .int .i64 n] w fun e w' => ∃ g, e = .returned (.slice (some ⟨g, 0, none⟩) 0 0) ∧ Below w.heap.size w w' := by
  obtain ⟨i0, hi, hz0, hz1, hz2⟩ := info_parts info_u64
  have hmi : min (0 : Int) (n : Int) = 0 := by omega
  go_enter Tryz.func8, Tryz.ntmps8
  go_wp2
  go_ret
  exact ⟨_, rfl, (Below.refl _ _).alloc (Nat.le_refl _) _⟩
/-- A copy of at most n words. -/
theorem few_l {B w : World} {l : List (Value × Nat × Nat)} {A : Option Addr} {xs : List Nat} (c n : Nat) (hL : Live B w l) (h : RdU w w.heap.size A xs) (hA : A = none → c = 0) (hc : xs.length ≤ c) (hcm : c ≤ maxLen) (hn0 : 0 < n) (hn : n ≤ 1048576) (d : Dig 18446744073709551616 xs) :
    Calls Tryz.prog 8 #[.slice A xs.length c, .int .i64 n] w (Tells B l n (vl 18446744073709551616 (xs.take n))) := by
  rcases Nat.eq_zero_or_pos xs.length with h0 | h0
  · obtain rfl := List.eq_nil_of_length_eq_zero h0
    have key : ∀ e w', (∃ g, e = Ending.returned (.slice (some ⟨g, 0, none⟩) 0 0) ∧ Below w.heap.size w w') → Tells B l n (vl 18446744073709551616 (([] : List Nat).take n)) e w' := fun e w' ⟨g, he, hb⟩ =>
      ⟨_, he, (hL.go hb).put ⟨_, 0, [], rfl, .nil, Nat.le_refl _, Nat.zero_le _, fun x hx => by simp at hx, by rw [List.take_nil]⟩⟩
    cases A with
    | none =>
      obtain rfl := hA rfl
      exact (few_none n w).mono key
    | some a => exact (few_empty a c n w).mono key
  · obtain ⟨b, off, rfl, _⟩ := h.at h0
    refine (few_some c n (min xs.length n) w h hc hcm rfl (by omega) hn).mono fun e w' ⟨v, he, ho, hb⟩ => ?_
    have hl : min xs.length n = (xs.take n).length := by rw [List.length_take]; omega
    have ht : xs.take (min xs.length n) = xs.take n := by
      rcases Nat.le_total xs.length n with hh | hh
      · rw [Nat.min_eq_left hh, List.take_of_length_le (Nat.le_refl _), List.take_of_length_le hh]
      · rw [Nat.min_eq_right hh]
    rw [ht, hl] at ho
    obtain ⟨g, c', rfl, hg⟩ := gotW_of_own ho (by rw [List.length_take]; omega)
    exact ⟨_, he, (hL.go hb).put ⟨_, _, _, rfl, hg.rd, hg.cap, by rw [List.length_take]; omega, dig_take d n, rfl⟩⟩
/-- A slice of words that came in. -/
def ArgN (w : World) (v : Value) : Prop := ∃ A c xs, v = .slice A (xs : List Nat).length c ∧ RdU w w.heap.size A xs ∧ (A = none → c = 0) ∧ xs.length ≤ c ∧ c ≤ maxLen ∧ Dig 18446744073709551616 xs
theorem few_a {B w : World} {l : List (Value × Nat × Nat)} {v : Value} (n : Nat) (hL : Live B w l) (ha : ArgN B v) (hn0 : 0 < n) (hn : n ≤ 1048576) :
    Calls Tryz.prog 8 #[v, .int .i64 n] w fun e w' => ∃ u X, e = .returned u ∧ Live B w' ((u, n, X) :: l) := by
  obtain ⟨A, c, xs, rfl, h1, h2, h3, h4, h5⟩ := ha
  exact (few_l c n hL ((h1.below hL.below).more hL.size) h2 h3 h4 hn0 hn h5).mono fun e w' ⟨u, he, h⟩ => ⟨u, _, he, h⟩
theorem cmp_is {B w : World} {l : List (Value × Nat × Nat)} {v1 v2 : Value} {k1 k2 X Y : Nat} (r : Int) (h : Live B w l) (m1 : (v1, k1, X) ∈ l) (m2 : (v2, k2, Y) ∈ l) (b1 : k1 ≤ 1048576) (b2 : k2 ≤ 1048576) (hr : cmpV (X : Int) (Y : Int) = r) :
    Calls Tryz.prog 17 #[v1, v2] w fun e w' => e = .returned (.int .i64 r) ∧ Live B w' l := by
  subst hr
  exact cmp_l h m1 m2 b1 b2
theorem cmp_same {B w : World} {l : List (Value × Nat × Nat)} {v1 v2 : Value} {k1 k2 X Y : Nat} (h : Live B w l) (m1 : (v1, k1, X) ∈ l) (m2 : (v2, k2, Y) ∈ l) (b1 : k1 ≤ 1048576) (b2 : k2 ≤ 1048576) (hr : X = Y) :
    Calls Tryz.prog 17 #[v1, v2] w fun e w' => e = .returned (.int .i64 0) ∧ Live B w' l :=
  cmp_is 0 h m1 m2 b1 b2 (cmpV_eq (by rw [hr]))
end Go.Proofs.YtniffclplmgcfaaGreatDoor
