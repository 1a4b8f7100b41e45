/- What the statement wants beyond its base. Conditions: none. -/
import Derived.Test.YtobokaafmcfeaaaGreatDoorSw02
namespace Go.Proofs.YtobokaafmcfeaaaGreatDoor
open Go.RowKit Go.Cal
/-- One cell, as it stands. -/
structure BwS (w : World) (b : Nat) (v : Value) (W : World) : Prop where
  bel : Below w.heap.size w W
  lt : b < W.heap.size
  c1 : W.cell? ⟨b, 1, none⟩ = some v
theorem BwS.keep {w : World} {b : Nat} {v : Value} {W W' : World} (h : BwS w b v W) (hb : Below W.heap.size W W') : BwS w b v W' :=
  ⟨h.bel.trans (hb.mono h.bel.size), Nat.lt_of_lt_of_le h.lt hb.size, (hb.cell (p := ⟨b, 1, none⟩) h.lt).trans h.c1⟩
section
variable {id op : Int} {p q : Nat} {l : List UInt8} {w : World}
set_option maxRecDepth 100000 in
set_option maxHeartbeats 4000000 in
theorem rwr_add (h1 : 1 ≤ id) (h4 : id ≤ 4) (hp : p < 2 ^ (fW id).toNat) (hq : q < 2 ^ (fW id).toNat) : Calls Tryz.prog 30 #[.int .i64 id, .int .i64 1, .int .u64 (p : Nat), .int .u64 (q : Nat), .string ⟨#[]⟩] w fun e w' => e = .returned (.tuple #[.string (strL (wrB id 1 p q)), .int .i64 0]) ∧ Below w.heap.size w w' := by
  have hof := Lib.hid (rof_yes id w h1 (by omega))
  have hk := posit_kind h1 h4
  have hft := ft_bounds id
  obtain ⟨M, hM⟩ : ∃ M : Nat, 2 ^ (fW id).toNat = M + 1 := ⟨2 ^ (fW id).toNat - 1, by have := Nat.two_pow_pos (fW id).toNat; omega⟩
  have hMi : (2 : Int) ^ (fW id).toNat - 1 = (M : Int) := by
    have : ((2 ^ (fW id).toNat : Nat) : Int) = ((M + 1 : Nat) : Int) := by rw [hM]
    push_cast at this
    omega
  have hmk := fun w => Lib.hid (rmask_any 1 (fW id) (fM id) (fB id) (fT id) (fI id) (fN id) w hft.1 hft.2.1)
  rw [hMi] at hmk
  rw [hk] at hof
  have hM0 : ¬ (M : Int) < 0 := by omega
  have hpM : ¬ (M : Int) < (p : Int) := by omega
  have hqM : ¬ (M : Int) < (q : Int) := by omega
  obtain ⟨-, -, -, -, w5, -⟩ := fo_wide h1 (show id < 15 by omega)
  have h64 : (fW id).toNat ≤ 64 := by obtain ⟨-, -, -, -, s5⟩ := quS_bnd h1 h4; exact s5
  have hpl : p < 18446744073709551616 := Nat.lt_of_lt_of_le hp (Nat.le_trans (Nat.pow_le_pow_right (by decide) h64) (by decide))
  have hql : q < 18446744073709551616 := Nat.lt_of_lt_of_le hq (Nat.le_trans (Nat.pow_le_pow_right (by decide) h64) (by decide))
  clear hp hq hM hMi hft hk
  obtain ⟨Wd, hWd⟩ : ∃ Wd, (fW id).toNat = Wd := ⟨_, rfl⟩
  obtain ⟨k, hkd⟩ : ∃ k, Wd / 8 = k := ⟨_, rfl⟩
  rw [hWd] at w5 h64
  have hbp := Lib.hid fun w => rbytes_any Wd p k hkd h64 hpl w
  have hbq := Lib.hid fun w => rbytes_any Wd q k hkd h64 hql w
  obtain ⟨P, hP⟩ : ∃ P, strL (beB k p) = P := ⟨_, rfl⟩
  obtain ⟨Q, hQ⟩ : ∃ Q, strL (beB k q) = Q := ⟨_, rfl⟩
  have hPz : P.size = k := by rw [← hP, strL_size, beB_len]
  have hQz : Q.size = k := by rw [← hQ, strL_size, beB_len]
  have hcat1 : strL [1] ++ P = strL (1 :: beB k p) := by rw [← hP]; exact strL_app [1] _
  obtain ⟨T, hT⟩ : ∃ T, strL (1 :: beB k p) = T := ⟨_, rfl⟩
  have hTz : T.size = 1 + k := by rw [← hT, strL_size, List.length_cons, beB_len]; omega
  have hz1 : (strL [1]).size = 1 := rfl
  have hcat2 : T ++ Q = strL (wrB id 1 p q) := by
    rw [← hT, ← hQ, strL_app]
    unfold wrB
    rw [if_pos (by decide), hWd, hkd]
    rfl
  rw [hT] at hcat1
  rw [hP] at hbp
  rw [hQ] at hbq
  have hk8 : k ≤ 8 := by omega
  have hs1 : ¬ 9223372036854775807 < 1 + k := by omega
  have hs2 : ¬ 9223372036854775807 < 1 + k + k := by omega
  obtain ⟨R, hR⟩ : ∃ R, strL (wrB id 1 p q) = R := ⟨_, rfl⟩
  rw [hR] at hcat2 ⊢
  clear hP hQ hT hR hkd hWd hpl hql
  rw [← w5] at hbp hbq
  clear w5
  go_enter Tryz.func30, Tryz.ntmps30
  go_wp2_with fail
  refine hof.out.mono ?_
  rintro e w1 ⟨rfl, hb1⟩
  have pF := pBlk_made w1 #[.int .i64 1, .int .i64 (fW id), .int .i64 (fM id), .int .i64 (fB id), .int .u64 (fT id), .int .u64 (fI id), .int .u64 (fN id)] 103
  have hB1 := hb1.trans (((Below.refl w1.heap.size w1).alloc (Nat.le_refl _) (.cells #[.int .i64 1, .int .i64 (fW id), .int .i64 (fM id), .int .i64 (fB id), .int .u64 (fT id), .int .u64 (fI id), .int .u64 (fN id)] 103)).mono hb1.size)
  clear hof hb1
  go_wp2_with fail
  refine (hmk _).out.mono ?_
  rintro e w2 ⟨rfl, hb2⟩
  have hB2 := hB1.trans (hb2.mono hB1.size)
  have pF2 := pBlk_st _ _ _ _ _ pF hb2
  obtain ⟨q0, q1, q2, q3, q4, q5, q6⟩ := cells7F pF2
  have ql := pF2.lt
  clear pF hb2 hB1
  go_wp2_with fail
  refine (hmk _).out.mono ?_
  rintro e w3 ⟨rfl, hb3⟩
  have hB3 := hB2.trans (hb3.mono hB2.size)
  have pF3 := pBlk_st _ _ _ _ _ pF2 hb3
  clear q0 q1 q2 q3 q4 q5 q6 ql hB2 hb3 pF2 hmk
  have ql := pF3.lt
  have hcv := byte_conv w3 1 (.int .u8 1) rfl _ rfl
  have hB4 := hB3.trans (((Below.refl w3.heap.size w3).alloc (Nat.le_refl _) (.cells #[.int .u8 1] 5)).mono hB3.size)
  have hal := (Below.refl w3.heap.size w3).alloc (Nat.le_refl _) (.cells #[.int .u8 1] 5)
  have hS0 : BwS w w1.heap.size (.int .i64 (fW id)) (w3.alloc (.cells #[.int .u8 1] 5)) := ⟨hB4, Nat.lt_of_lt_of_le ql hal.size, (hal.cell (p := ⟨w1.heap.size, 1, none⟩) ql).trans (pF3.cell 1 _ rfl)⟩
  clear hal pF3 ql hB4 hB3
  go_wp2_with fail
  clear hcv
  refine wp_region_held_drew (S := BwS w w1.heap.size (.int .i64 (fW id))) (by kernel_rfl) (hS0.keep (Below.refl _ _).drew) (fun hS => ?_)
  (refine wpAnyH_take (i := 0) (v := ?_) rfl (by kernel_rfl) (by kernel_rfl) (by kernel_rfl) (fun _ _ _ h => h) (Or.inl ⟨by rfl, ?_⟩) hS ?_; rotate_left; (focus ((intro W9 hSW; have hx1 := hSW.c1; have hl1 := hSW.lt; go_simp) <;> with_reducible rfl)))
  (refine wpAnyH_take (i := 1) (v := ?_) rfl (by kernel_rfl) (by kernel_rfl) (by kernel_rfl) (fun _ _ _ h => h) (Or.inl ⟨by rfl, ?_⟩) hS ?_; rotate_left; (focus ((intro W9 hSW; have hx1 := hSW.c1; have hl1 := hSW.lt; go_simp) <;> with_reducible rfl)))
  (refine wpAnyH_take (i := 2) (v := ?_) rfl (by kernel_rfl) (by kernel_rfl) (by kernel_rfl) (fun _ _ _ h => h) (Or.inl ⟨by rfl, ?_⟩) hS ?_; rotate_left; (focus ((intro W9 hSW; have hx1 := hSW.c1; have hl1 := hSW.lt; go_simp) <;> with_reducible rfl)))
  (refine wpAnyH_take (i := 3) (v := ?_) rfl (by kernel_rfl) (by kernel_rfl) (by kernel_rfl) (fun _ _ _ h => h) (Or.inl ⟨by rfl, ?_⟩) hS ?_; rotate_left; (focus ((intro W9 hSW; have hx1 := hSW.c1; have hl1 := hSW.lt; go_simp) <;> with_reducible rfl)))
  (refine wpAnyH_take (i := 6) (v := ?_) rfl (by kernel_rfl) (by kernel_rfl) (by kernel_rfl) (fun _ _ _ h => h) (Or.inl ⟨by rfl, ?_⟩) hS ?_; rotate_left; (focus ((intro W9 hSW; have hx1 := hSW.c1; have hl1 := hSW.lt; go_simp) <;> with_reducible rfl)))
  (refine wpAnyH_take (i := 7) (v := ?_) rfl (by kernel_rfl) (by kernel_rfl) (by kernel_rfl) (fun _ _ _ h => h) (Or.inl ⟨by rfl, ?_⟩) hS ?_; rotate_left; (focus ((intro W9 hSW; have hx1 := hSW.c1; have hl1 := hSW.lt; go_simp) <;> with_reducible rfl)))
  (refine wpAnyH_take (i := 8) (v := ?_) rfl (by kernel_rfl) (by kernel_rfl) (by kernel_rfl) (fun _ _ _ h => h) (Or.inl ⟨by rfl, ?_⟩) hS ?_; rotate_left; (focus ((intro W9 hSW; have hx1 := hSW.c1; have hl1 := hSW.lt; go_simp) <;> with_reducible rfl)))
  (refine wpAnyH_ready (rs := [4]) (by kernel_rfl) (by simp) ?_; refine AllReadyH.cons rfl (fun K hK => ?_) AllReadyH.nil)
  go_simp
  go_at_call 93
  refine Calls.mono (hbp.out _) ?_
  rintro e w4 ⟨rfl, hb4⟩
  refine hK.out _ _ (hS.keep hb4) (fun hS => ?_)
  (refine wpAnyH_take (i := 5) (v := ?_) rfl (by kernel_rfl) (by kernel_rfl) (by kernel_rfl) (fun _ _ _ h => h) (Or.inl ⟨by rfl, ?_⟩) hS ?_; rotate_left; (focus ((intro W9 hSW; have hx1 := hSW.c1; have hl1 := hSW.lt; go_simp) <;> with_reducible rfl)))
  (refine wpAnyH_ready (rs := [9]) (by kernel_rfl) (by simp) ?_; refine AllReadyH.cons rfl (fun K hK => ?_) AllReadyH.nil)
  go_simp
  go_at_call 93
  refine Calls.mono (hbq.out _) ?_
  rintro e w5 ⟨rfl, hb5⟩
  refine hK.out _ _ (hS.keep hb5) (fun hS => ?_)
  (refine wpAnyH_take (i := 10) (v := ?_) rfl (by kernel_rfl) (by kernel_rfl) (by kernel_rfl) (fun _ _ _ h => h) (Or.inl ⟨by rfl, ?_⟩) hS ?_; rotate_left; (focus ((intro W9 hSW; have hx1 := hSW.c1; have hl1 := hSW.lt; go_simp) <;> with_reducible rfl)))
  (refine wpAnyH_take (i := 11) (v := ?_) rfl (by kernel_rfl) (by kernel_rfl) (by kernel_rfl) (fun _ _ _ h => h) (Or.inl ⟨by rfl, ?_⟩) hS ?_; rotate_left; (focus ((intro W9 hSW; have hx1 := hSW.c1; have hl1 := hSW.lt; go_simp) <;> with_reducible rfl)))
  refine wpAnyH_done (by kernel_rfl) ?_ _
  have hB6 := hS.bel
  go_wp2
  go_ret2
  exact ⟨rfl, hB6⟩
set_option maxRecDepth 100000 in
set_option maxHeartbeats 4000000 in
theorem rwr_sub (h1 : 1 ≤ id) (h4 : id ≤ 4) (hp : p < 2 ^ (fW id).toNat) (hq : q < 2 ^ (fW id).toNat) : Calls Tryz.prog 30 #[.int .i64 id, .int .i64 2, .int .u64 (p : Nat), .int .u64 (q : Nat), .string ⟨#[]⟩] w fun e w' => e = .returned (.tuple #[.string (strL (wrB id 2 p q)), .int .i64 0]) ∧ Below w.heap.size w w' := by
  have hof := Lib.hid (rof_yes id w h1 (by omega))
  have hk := posit_kind h1 h4
  have hft := ft_bounds id
  obtain ⟨M, hM⟩ : ∃ M : Nat, 2 ^ (fW id).toNat = M + 1 := ⟨2 ^ (fW id).toNat - 1, by have := Nat.two_pow_pos (fW id).toNat; omega⟩
  have hMi : (2 : Int) ^ (fW id).toNat - 1 = (M : Int) := by
    have : ((2 ^ (fW id).toNat : Nat) : Int) = ((M + 1 : Nat) : Int) := by rw [hM]
    push_cast at this
    omega
  have hmk := fun w => Lib.hid (rmask_any 1 (fW id) (fM id) (fB id) (fT id) (fI id) (fN id) w hft.1 hft.2.1)
  rw [hMi] at hmk
  rw [hk] at hof
  have hM0 : ¬ (M : Int) < 0 := by omega
  have hpM : ¬ (M : Int) < (p : Int) := by omega
  have hqM : ¬ (M : Int) < (q : Int) := by omega
  obtain ⟨-, -, -, -, w5, -⟩ := fo_wide h1 (show id < 15 by omega)
  have h64 : (fW id).toNat ≤ 64 := by obtain ⟨-, -, -, -, s5⟩ := quS_bnd h1 h4; exact s5
  have hpl : p < 18446744073709551616 := Nat.lt_of_lt_of_le hp (Nat.le_trans (Nat.pow_le_pow_right (by decide) h64) (by decide))
  have hql : q < 18446744073709551616 := Nat.lt_of_lt_of_le hq (Nat.le_trans (Nat.pow_le_pow_right (by decide) h64) (by decide))
  clear hp hq hM hMi hft hk
  obtain ⟨Wd, hWd⟩ : ∃ Wd, (fW id).toNat = Wd := ⟨_, rfl⟩
  obtain ⟨k, hkd⟩ : ∃ k, Wd / 8 = k := ⟨_, rfl⟩
  rw [hWd] at w5 h64
  have hbp := Lib.hid fun w => rbytes_any Wd p k hkd h64 hpl w
  have hbq := Lib.hid fun w => rbytes_any Wd q k hkd h64 hql w
  obtain ⟨P, hP⟩ : ∃ P, strL (beB k p) = P := ⟨_, rfl⟩
  obtain ⟨Q, hQ⟩ : ∃ Q, strL (beB k q) = Q := ⟨_, rfl⟩
  have hPz : P.size = k := by rw [← hP, strL_size, beB_len]
  have hQz : Q.size = k := by rw [← hQ, strL_size, beB_len]
  have hcat1 : strL [2] ++ P = strL (2 :: beB k p) := by rw [← hP]; exact strL_app [2] _
  obtain ⟨T, hT⟩ : ∃ T, strL (2 :: beB k p) = T := ⟨_, rfl⟩
  have hTz : T.size = 1 + k := by rw [← hT, strL_size, List.length_cons, beB_len]; omega
  have hz1 : (strL [2]).size = 1 := rfl
  have hcat2 : T ++ Q = strL (wrB id 2 p q) := by
    rw [← hT, ← hQ, strL_app]
    unfold wrB
    rw [if_pos (by decide), hWd, hkd]
    rfl
  rw [hT] at hcat1
  rw [hP] at hbp
  rw [hQ] at hbq
  have hk8 : k ≤ 8 := by omega
  have hs1 : ¬ 9223372036854775807 < 1 + k := by omega
  have hs2 : ¬ 9223372036854775807 < 1 + k + k := by omega
  obtain ⟨R, hR⟩ : ∃ R, strL (wrB id 2 p q) = R := ⟨_, rfl⟩
  rw [hR] at hcat2 ⊢
  clear hP hQ hT hR hkd hWd hpl hql
  rw [← w5] at hbp hbq
  clear w5
  go_enter Tryz.func30, Tryz.ntmps30
  go_wp2_with fail
  refine hof.out.mono ?_
  rintro e w1 ⟨rfl, hb1⟩
  have pF := pBlk_made w1 #[.int .i64 1, .int .i64 (fW id), .int .i64 (fM id), .int .i64 (fB id), .int .u64 (fT id), .int .u64 (fI id), .int .u64 (fN id)] 103
  have hB1 := hb1.trans (((Below.refl w1.heap.size w1).alloc (Nat.le_refl _) (.cells #[.int .i64 1, .int .i64 (fW id), .int .i64 (fM id), .int .i64 (fB id), .int .u64 (fT id), .int .u64 (fI id), .int .u64 (fN id)] 103)).mono hb1.size)
  clear hof hb1
  go_wp2_with fail
  refine (hmk _).out.mono ?_
  rintro e w2 ⟨rfl, hb2⟩
  have hB2 := hB1.trans (hb2.mono hB1.size)
  have pF2 := pBlk_st _ _ _ _ _ pF hb2
  obtain ⟨q0, q1, q2, q3, q4, q5, q6⟩ := cells7F pF2
  have ql := pF2.lt
  clear pF hb2 hB1
  go_wp2_with fail
  refine (hmk _).out.mono ?_
  rintro e w3 ⟨rfl, hb3⟩
  have hB3 := hB2.trans (hb3.mono hB2.size)
  have pF3 := pBlk_st _ _ _ _ _ pF2 hb3
  clear q0 q1 q2 q3 q4 q5 q6 ql hB2 hb3 pF2 hmk
  have ql := pF3.lt
  have hcv := byte_conv w3 2 (.int .u8 2) rfl _ rfl
  have hB4 := hB3.trans (((Below.refl w3.heap.size w3).alloc (Nat.le_refl _) (.cells #[.int .u8 2] 5)).mono hB3.size)
  have hal := (Below.refl w3.heap.size w3).alloc (Nat.le_refl _) (.cells #[.int .u8 2] 5)
  have hS0 : BwS w w1.heap.size (.int .i64 (fW id)) (w3.alloc (.cells #[.int .u8 2] 5)) := ⟨hB4, Nat.lt_of_lt_of_le ql hal.size, (hal.cell (p := ⟨w1.heap.size, 1, none⟩) ql).trans (pF3.cell 1 _ rfl)⟩
  clear hal pF3 ql hB4 hB3
  go_wp2_with fail
  clear hcv
  refine wp_region_held_drew (S := BwS w w1.heap.size (.int .i64 (fW id))) (by kernel_rfl) (hS0.keep (Below.refl _ _).drew) (fun hS => ?_)
  (refine wpAnyH_take (i := 0) (v := ?_) rfl (by kernel_rfl) (by kernel_rfl) (by kernel_rfl) (fun _ _ _ h => h) (Or.inl ⟨by rfl, ?_⟩) hS ?_; rotate_left; (focus ((intro W9 hSW; have hx1 := hSW.c1; have hl1 := hSW.lt; go_simp) <;> with_reducible rfl)))
  (refine wpAnyH_take (i := 1) (v := ?_) rfl (by kernel_rfl) (by kernel_rfl) (by kernel_rfl) (fun _ _ _ h => h) (Or.inl ⟨by rfl, ?_⟩) hS ?_; rotate_left; (focus ((intro W9 hSW; have hx1 := hSW.c1; have hl1 := hSW.lt; go_simp) <;> with_reducible rfl)))
  (refine wpAnyH_take (i := 2) (v := ?_) rfl (by kernel_rfl) (by kernel_rfl) (by kernel_rfl) (fun _ _ _ h => h) (Or.inl ⟨by rfl, ?_⟩) hS ?_; rotate_left; (focus ((intro W9 hSW; have hx1 := hSW.c1; have hl1 := hSW.lt; go_simp) <;> with_reducible rfl)))
  (refine wpAnyH_take (i := 3) (v := ?_) rfl (by kernel_rfl) (by kernel_rfl) (by kernel_rfl) (fun _ _ _ h => h) (Or.inl ⟨by rfl, ?_⟩) hS ?_; rotate_left; (focus ((intro W9 hSW; have hx1 := hSW.c1; have hl1 := hSW.lt; go_simp) <;> with_reducible rfl)))
  (refine wpAnyH_take (i := 6) (v := ?_) rfl (by kernel_rfl) (by kernel_rfl) (by kernel_rfl) (fun _ _ _ h => h) (Or.inl ⟨by rfl, ?_⟩) hS ?_; rotate_left; (focus ((intro W9 hSW; have hx1 := hSW.c1; have hl1 := hSW.lt; go_simp) <;> with_reducible rfl)))
  (refine wpAnyH_take (i := 7) (v := ?_) rfl (by kernel_rfl) (by kernel_rfl) (by kernel_rfl) (fun _ _ _ h => h) (Or.inl ⟨by rfl, ?_⟩) hS ?_; rotate_left; (focus ((intro W9 hSW; have hx1 := hSW.c1; have hl1 := hSW.lt; go_simp) <;> with_reducible rfl)))
  (refine wpAnyH_take (i := 8) (v := ?_) rfl (by kernel_rfl) (by kernel_rfl) (by kernel_rfl) (fun _ _ _ h => h) (Or.inl ⟨by rfl, ?_⟩) hS ?_; rotate_left; (focus ((intro W9 hSW; have hx1 := hSW.c1; have hl1 := hSW.lt; go_simp) <;> with_reducible rfl)))
  (refine wpAnyH_ready (rs := [4]) (by kernel_rfl) (by simp) ?_; refine AllReadyH.cons rfl (fun K hK => ?_) AllReadyH.nil)
  go_simp
  go_at_call 93
  refine Calls.mono (hbp.out _) ?_
  rintro e w4 ⟨rfl, hb4⟩
  refine hK.out _ _ (hS.keep hb4) (fun hS => ?_)
  (refine wpAnyH_take (i := 5) (v := ?_) rfl (by kernel_rfl) (by kernel_rfl) (by kernel_rfl) (fun _ _ _ h => h) (Or.inl ⟨by rfl, ?_⟩) hS ?_; rotate_left; (focus ((intro W9 hSW; have hx1 := hSW.c1; have hl1 := hSW.lt; go_simp) <;> with_reducible rfl)))
  (refine wpAnyH_ready (rs := [9]) (by kernel_rfl) (by simp) ?_; refine AllReadyH.cons rfl (fun K hK => ?_) AllReadyH.nil)
  go_simp
  go_at_call 93
  refine Calls.mono (hbq.out _) ?_
  rintro e w5 ⟨rfl, hb5⟩
  refine hK.out _ _ (hS.keep hb5) (fun hS => ?_)
  (refine wpAnyH_take (i := 10) (v := ?_) rfl (by kernel_rfl) (by kernel_rfl) (by kernel_rfl) (fun _ _ _ h => h) (Or.inl ⟨by rfl, ?_⟩) hS ?_; rotate_left; (focus ((intro W9 hSW; have hx1 := hSW.c1; have hl1 := hSW.lt; go_simp) <;> with_reducible rfl)))
  (refine wpAnyH_take (i := 11) (v := ?_) rfl (by kernel_rfl) (by kernel_rfl) (by kernel_rfl) (fun _ _ _ h => h) (Or.inl ⟨by rfl, ?_⟩) hS ?_; rotate_left; (focus ((intro W9 hSW; have hx1 := hSW.c1; have hl1 := hSW.lt; go_simp) <;> with_reducible rfl)))
  refine wpAnyH_done (by kernel_rfl) ?_ _
  have hB6 := hS.bel
  go_wp2
  go_ret2
  exact ⟨rfl, hB6⟩
set_option maxRecDepth 100000 in
set_option maxHeartbeats 4000000 in
theorem rwr_load (h1 : 1 ≤ id) (h4 : id ≤ 4) (hl : l.length ≤ 255) : Calls Tryz.prog 30 #[.int .i64 id, .int .i64 5, .int .u64 0, .int .u64 0, .string (strL l)] w fun e w' => e = .returned (.tuple #[.string (strL (5 :: UInt8.ofNat l.length :: l)), .int .i64 0]) ∧ Below w.heap.size w w' := by
  have hof := Lib.hid (rof_yes id w h1 (by omega))
  have hk := posit_kind h1 h4
  have hft := ft_bounds id
  obtain ⟨M, hM⟩ : ∃ M : Nat, 2 ^ (fW id).toNat = M + 1 := ⟨2 ^ (fW id).toNat - 1, by have := Nat.two_pow_pos (fW id).toNat; omega⟩
  have hMi : (2 : Int) ^ (fW id).toNat - 1 = (M : Int) := by
    have : ((2 ^ (fW id).toNat : Nat) : Int) = ((M + 1 : Nat) : Int) := by rw [hM]
    push_cast at this
    omega
  have hmk := fun w => Lib.hid (rmask_any 1 (fW id) (fM id) (fB id) (fT id) (fI id) (fN id) w hft.1 hft.2.1)
  rw [hMi] at hmk
  rw [hk] at hof
  have hM0 : ¬ (M : Int) < 0 := by omega
  clear hM hMi hft hk
  obtain ⟨n, hn⟩ : ∃ n, l.length = n := ⟨_, rfl⟩
  have hsz := strL_size l
  rw [hn] at hl hsz ⊢
  obtain ⟨b, hb⟩ : ∃ b, UInt8.ofNat n = b := ⟨_, rfl⟩
  have hbn : b.toNat = n := by rw [← hb]; simp; omega
  rw [hb]
  have hwr : IntKind.u8.wrap (n : Int) = (n : Int) := by simp [IntKind.wrap, IntKind.bits, IntKind.signed]; omega
  have hli : ¬ (255 : Int) < (n : Int) := by omega
  have hlj : ¬ 255 < n := by omega
  have hll : decide ((255 : Int) < (n : Int)) = false := decide_eq_false hli
  have hcat1 : strL [5] ++ strL [b] = strL [5, b] := strL_app [5] [b]
  have hcat2 : strL [5, b] ++ strL l = strL (5 :: b :: l) := strL_app [5, b] l
  have hz1 : (strL [5]).size = 1 := rfl
  have hz2 : (strL [b]).size = 1 := strL_size _
  have hz3 : (strL [5, b]).size = 2 := strL_size _
  have hs2 : ¬ 9223372036854775807 < 2 + n := by omega
  clear hb
  go_enter Tryz.func30, Tryz.ntmps30
  go_wp2_with fail
  refine hof.out.mono ?_
  rintro e w1 ⟨rfl, hb1⟩
  have pF := pBlk_made w1 #[.int .i64 1, .int .i64 (fW id), .int .i64 (fM id), .int .i64 (fB id), .int .u64 (fT id), .int .u64 (fI id), .int .u64 (fN id)] 103
  have hB1 := hb1.trans (((Below.refl w1.heap.size w1).alloc (Nat.le_refl _) (.cells #[.int .i64 1, .int .i64 (fW id), .int .i64 (fM id), .int .i64 (fB id), .int .u64 (fT id), .int .u64 (fI id), .int .u64 (fN id)] 103)).mono hb1.size)
  clear hof hb1
  go_wp2_with fail
  refine (hmk _).out.mono ?_
  rintro e w2 ⟨rfl, hb2⟩
  have hB2 := hB1.trans (hb2.mono hB1.size)
  have pF2 := pBlk_st _ _ _ _ _ pF hb2
  obtain ⟨q0, q1, q2, q3, q4, q5, q6⟩ := cells7F pF2
  have ql := pF2.lt
  clear pF hb2 hB1
  go_wp2_with fail
  refine (hmk _).out.mono ?_
  rintro e w3 ⟨rfl, hb3⟩
  have hB3 := hB2.trans (hb3.mono hB2.size)
  have pF3 := pBlk_st _ _ _ _ _ pF2 hb3
  clear q0 q1 q2 q3 q4 q5 q6 ql hB2 hb3 pF2 hmk
  have ql := pF3.lt
  have hcv := byte_conv w3 5 (.int .u8 5) rfl _ rfl
  have hcv2 := byte_conv (w3.alloc (.cells #[.int .u8 5] 5)) b (.int .u8 (n : Int)) (by rw [hbn]) (w3.heap.size + 1) (by simp)
  have hB4 := (hB3.trans (((Below.refl w3.heap.size w3).alloc (Nat.le_refl _) (.cells #[.int .u8 5] 5)).mono hB3.size)).alloc (Nat.le_trans hB3.size (by simp)) (.cells #[.int .u8 (n : Int)] 5)
  go_wp2
  go_ret2
  exact ⟨rfl, hB4⟩
end
end Go.Proofs.YtobokaafmcfeaaaGreatDoor
namespace Go.Proofs.YtobokaafmcfeaaaGreatDoor
open Go.RowKit Go.Cal
end Go.Proofs.YtobokaafmcfeaaaGreatDoor
namespace Go.Proofs.YtobokaafmcfeaaaGreatDoor
open Go.RowKit Go.Cal
/-- Both tell these bytes, and this error. -/
def BothW (id op : Int) (p q : Nat) (l : List UInt8) (L : List UInt8) (E : Int) : Prop :=
  (∀ W, VaW W → Calls Tryz.prog 29 #[.int .i64 id, .int .i64 op, .int .u64 (p : Nat), .int .u64 (q : Nat), .string (strL l)] W fun e w' => ∃ A c, e = .returned (.tuple #[.slice A L.length c, .int .i64 E]) ∧ RdB w' w'.heap.size A L ∧ Below W.heap.size W w') ∧
  (∀ W, Calls Tryz.prog 30 #[.int .i64 id, .int .i64 op, .int .u64 (p : Nat), .int .u64 (q : Nat), .string (strL l)] W fun e w' => e = .returned (.tuple #[.string (strL L), .int .i64 E]) ∧ Below W.heap.size W w')
theorem wr_no {w : World} {E : Int} {e : Ending} {w' : World} (h : e = .returned (.tuple #[.slice none 0 0, .int .i64 E]) ∧ Below w.heap.size w w') : ∃ A c, e = .returned (.tuple #[.slice A ([] : List UInt8).length c, .int .i64 E]) ∧ RdB w' w'.heap.size A [] ∧ Below w.heap.size w w' :=
  ⟨none, 0, h.1, ⟨.inl rfl, fun _ _ _ i hi => by simp at hi⟩, h.2⟩
theorem wr_some {w : World} {L : List UInt8} {e : Ending} {w' : World} (h : TellsB w L e w') : ∃ A c, e = .returned (.tuple #[.slice A L.length c, .int .i64 0]) ∧ RdB w' w'.heap.size A L ∧ Below w.heap.size w w' := by
  obtain ⟨A, c, rfl, ho, hb⟩ := h
  obtain ⟨A5, c5, e5, hr, -⟩ := read_ownB ho rfl
  injection e5 with e1 e2 e3
  subst e1; subst e3
  exact ⟨A, c, rfl, hr, hb⟩
theorem writes_both (id op : Int) (p q : Nat) (l : List UInt8) (hp : p < 18446744073709551616) (hq : q < 18446744073709551616) : ∃ L E, BothW id op p q l L E := by
  by_cases hid : id < 1 ∨ 4 < id
  · exact ⟨[], 3, fun W hW => (wr_form hid hW).mono fun e w' h => wr_no h, fun W => rwr_form hid⟩
  have h1 : 1 ≤ id := by omega
  have h4 : id ≤ 4 := by omega
  by_cases hbad : op < 0 ∨ 5 < op ∨ (op ≠ 1 ∧ op ≠ 2 ∧ (p ≠ 0 ∨ q ≠ 0)) ∨ (op ≠ 5 ∧ l ≠ []) ∨ 255 < l.length
  · exact ⟨[], 1, fun W hW => (wr_bad h1 h4 hp hq hW hbad).mono fun e w' h => wr_no h, fun W => rwr_bad h1 h4 hbad⟩
  have hl255 : l.length ≤ 255 := by omega
  have hlz : op ≠ 5 → l = [] := fun h5 => Classical.byContradiction fun hn => hbad (.inr (.inr (.inr (.inl ⟨h5, hn⟩))))
  have hpq : op ≠ 1 → op ≠ 2 → p = 0 ∧ q = 0 := fun a b => ⟨Classical.byContradiction fun hn => hbad (.inr (.inr (.inl ⟨a, b, .inl hn⟩))), Classical.byContradiction fun hn => hbad (.inr (.inr (.inl ⟨a, b, .inr hn⟩)))⟩
  have hop : op = 0 ∨ op = 1 ∨ op = 2 ∨ op = 3 ∨ op = 4 ∨ op = 5 := by omega
  have hz : strL [] = (⟨#[]⟩ : ByteArray) := rfl
  rcases hop with rfl | rfl | rfl | rfl | rfl | rfl
  · obtain ⟨rfl, rfl⟩ := hpq (by decide) (by decide)
    obtain rfl := hlz (by decide)
    exact ⟨wrB id 0 0 0, 0, fun W hW => (wr_clear h1 h4 hW).mono fun e w' h => wr_some h, fun W => rwr_clear h1 h4⟩
  · obtain rfl := hlz (by decide)
    by_cases hw : 2 ^ (fW id).toNat ≤ p ∨ 2 ^ (fW id).toNat ≤ q
    · exact ⟨[], 1, fun W hW => (wr_wide1 h1 h4 rfl rfl hp hq hW hw).mono fun e w' h => wr_no h, fun W => rwr_wide1 h1 h4 rfl rfl hw⟩
    · exact ⟨wrB id 1 p q, 0, fun W hW => (wr_add h1 h4 hW (by rw [pos_full h1 h4]; omega) (by rw [pos_full h1 h4]; omega)).mono fun e w' h => wr_some h, fun W => rwr_add h1 h4 (by omega) (by omega)⟩
  · obtain rfl := hlz (by decide)
    by_cases hw : 2 ^ (fW id).toNat ≤ p ∨ 2 ^ (fW id).toNat ≤ q
    · exact ⟨[], 1, fun W hW => (wr_wide2 h1 h4 rfl rfl hp hq hW hw).mono fun e w' h => wr_no h, fun W => rwr_wide2 h1 h4 rfl rfl hw⟩
    · exact ⟨wrB id 2 p q, 0, fun W hW => (wr_sub h1 h4 hW (by rw [pos_full h1 h4]; omega) (by rw [pos_full h1 h4]; omega)).mono fun e w' h => wr_some h, fun W => rwr_sub h1 h4 (by omega) (by omega)⟩
  · obtain ⟨rfl, rfl⟩ := hpq (by decide) (by decide)
    obtain rfl := hlz (by decide)
    exact ⟨wrB id 3 0 0, 0, fun W hW => (wr_neg h1 h4 hW).mono fun e w' h => wr_some h, fun W => rwr_neg h1 h4⟩
  · obtain ⟨rfl, rfl⟩ := hpq (by decide) (by decide)
    obtain rfl := hlz (by decide)
    exact ⟨wrB id 4 0 0, 0, fun W hW => (wr_out h1 h4 hW).mono fun e w' h => wr_some h, fun W => rwr_out h1 h4⟩
  · obtain ⟨rfl, rfl⟩ := hpq (by decide) (by decide)
    exact ⟨5 :: UInt8.ofNat l.length :: l, 0, fun W hW => wr_load h1 h4 hl255 hW, fun W => rwr_load h1 h4 hl255⟩
set_option maxRecDepth 100000 in
set_option maxHeartbeats 2000000 in
theorem scriptWrites_any (id op pv qv : Int) (s : ByteArray) (w : World) (hW : VaW w) (hp : 0 ≤ pv ∧ pv ≤ 18446744073709551615) (hq : 0 ≤ qv ∧ qv ≤ 18446744073709551615) (_ : s.size ≤ maxLen) : Calls Tryz.prog 8 #[.int .i64 id, .int .i64 op, .int .u64 pv, .int .u64 qv, .string s] w fun e w' => e = .returned (.bool true) ∧ Below w.heap.size w w' := by
  obtain ⟨p, rfl⟩ : ∃ p : Nat, pv = p := ⟨pv.toNat, by omega⟩
  obtain ⟨q, rfl⟩ : ∃ q : Nat, qv = q := ⟨qv.toNat, by omega⟩
  obtain ⟨l, rfl⟩ : ∃ l, s = strL l := ⟨s.data.toList, by unfold strL; rw [Array.toArray_toList]⟩
  obtain ⟨L, E, hb1, hb2⟩ := writes_both id op p q l (by omega) (by omega)
  have hsh := Lib.hid (shown19_any w hW)
  have hc1 := Lib.hid fun (W : World) (hb : Below w.heap.size w W) => hb1 W (hW.below hb)
  have hc2 := Lib.hid hb2
  clear hb1 hb2 hp hq hW
  obtain ⟨n, hn⟩ : ∃ n, L.length = n := ⟨_, rfl⟩
  rw [hn] at hc1
  go_enter Tryz.func8, Tryz.ntmps8
  go_wp2_with fail
  refine hsh.out.mono ?_
  rintro e w1 ⟨rfl, hB1⟩
  clear hsh
  go_wp2_with fail
  refine (hc1.out _ hB1).mono ?_
  rintro e w2 ⟨A, c, rfl, hr, hb⟩
  have hB2 := hB1.trans (hb.mono hB1.size)
  clear hc1 hb
  go_wp2_with fail
  refine (hc2.out _).mono ?_
  rintro e w3 ⟨rfl, hb⟩
  have hB3 := hB2.trans (hb.mono hB2.size)
  have hcv := conv_bytes c ((hr.below hb).more hb.size)
  rw [hn] at hcv
  clear hc2 hb hr
  go_wp2
  go_ret
  exact ⟨rfl, hB3⟩
end Go.Proofs.YtobokaafmcfeaaaGreatDoor
