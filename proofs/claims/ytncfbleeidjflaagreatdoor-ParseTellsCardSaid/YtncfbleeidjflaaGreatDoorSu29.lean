/- Rounding: the boundaries, walked. Conditions: the variables that values read. -/
/- Rounding: is a size to be rounded to a magnitude or a lesser one, walked. Conditions: the variables that values read. -/
/- Rounding: the nearest magnitude, walked. Conditions: the variables that values read. -/
/- Rounding: Round, walked: the pattern of a number. Conditions: the variables that values read. -/
import Derived.Test.YtncfbleeidjflaaGreatDoorSu28
import Derived.Test.YtncfbleeidjflaaGreatDoorSu22
import Derived.Test.YtncfbleeidjflaaGreatDoorSu01
import Derived.Deep.LoopGhost
namespace Go.Proofs.YtncfbleeidjflaaGreatDoor
open Go.RowKit Go.Cal
theorem exact_size : (Tryz.prog.info? 71).map (·.size) = some 4 := by kernel_rfl
theorem cells4 {w : World} {g : Nat} {a b c d : Value} {t : TypeId} (hp : pBlk g #[a, b, c, d] t w) :
    w.cell? ⟨g, 0, none⟩ = some a ∧ w.cell? ⟨g, 1, none⟩ = some b ∧ w.cell? ⟨g, 2, none⟩ = some c ∧ w.cell? ⟨g, 3, none⟩ = some d :=
  ⟨hp.cell 0 _ rfl, hp.cell 1 _ rfl, hp.cell 2 _ rfl, hp.cell 3 _ rfl⟩
theorem noU : ∀ x ∈ (#[.bool false, .slice none 0 0, .int .i64 0, .int .i64 0] : Array Value).toList, ∀ n, x ≠ .int .u64 n := by simp
set_option maxRecDepth 100000 in
set_option maxHeartbeats 1000000 in
theorem rsize_any (m : Nat) (t : Int) (h0 : 0 < m) (hm : m < 18446744073709551616) (ht : -5000 ≤ t ∧ t ≤ 5000) (w : World) :
    Calls Tryz.prog 181 #[.int .u64 m, .int .i64 t] w fun e w' => ∃ A n c, e = .returned (.agg #[.bool false, .slice A n c, .int .i64 t, .int .i64 0]) ∧ IsT w' (.slice A n c) 128 m ∧ Below w.heap.size w w' := by
  have hof := Lib.hid fun w' => xof_fin false m t hm ht w'
  have hm0 : ((m : Int) == 0) = false := by simp; omega
  go_enter Tryz.func181, Tryz.ntmps181
  go_wp2_with fail
  refine (hof.out _).mono ?_
  rintro e w1 ⟨A, n, c, rfl, hv, hb⟩
  have hz := hb.size
  simp at hz
  have hB : Below w.heap.size w w1 := ((Below.refl _ _).alloc (Nat.le_refl _) _).trans (hb.mono (by simp))
  have hp0 := pBlk_st _ _ _ _ _ (pBlk_st _ _ _ _ _ (pBlk_made w #[.bool false, .slice none 0 0, .int .i64 0, .int .i64 0] 71) hb) ((Below.refl _ _).alloc (Nat.le_refl _) (.cells #[.bool false, .slice none 0 0, .int .i64 0, .int .i64 0] 71))
  have hv0 := hv.below ((Below.refl _ _).alloc (Nat.le_refl _) (.cells #[.bool false, .slice none 0 0, .int .i64 0, .int .i64 0] 71))
  go_wp2_with (first
    | ((with_reducible show wpList _ _ _ (Oper.mk _ (Op.store 71 _ _) _ _ _ _ :: _) _ _); refine wpList_store_keep _ rfl 71 _ _ rfl w1.heap.size #[.bool false, .slice A n c, .int .i64 t, .int .i64 0] #[.bool false, .slice none 0 0, .int .i64 0, .int .i64 0] 71 rfl rfl (pBlk_made w1 #[.bool false, .slice none 0 0, .int .i64 0, .int .i64 0] 71) exact_size rfl (by simp [Value.oneCell']) noU ?_; intro w2 hp2 hb2 hk2; obtain ⟨r0, r1, r2, r3⟩ := cells4 hp2; have hq := pBlk_keep hp0 hb2 (by omega); have hv2 := hk2 _ _ _ hv0)
    | ((with_reducible show wpList _ _ _ (Oper.mk _ (Op.store 71 _ _) _ _ _ _ :: _) _ _); refine wpList_store_keep _ rfl 71 _ _ rfl w.heap.size #[.bool false, .slice A n c, .int .i64 t, .int .i64 0] #[.bool false, .slice none 0 0, .int .i64 0, .int .i64 0] 71 rfl rfl hq exact_size rfl (by simp [Value.oneCell']) noU ?_; intro w3 hp3 hb3 hk3; obtain ⟨s0, s1, s2, s3⟩ := cells4 hp3; have hv3 := hk3 _ _ _ hv2))
  have hB3 : Below w.heap.size w w3 := ((hB.alloc hB.size _).trans (hb2.mono hB.size)).trans hb3
  exact bodyPost_ret (v := .agg #[.bool false, .slice A n c, .int .i64 t, .int .i64 0]) (by simp [results, Tryz.results181, go_sem, s0, s1, s2, s3]) rfl ⟨A, n, c, rfl, hv3, hB3⟩
theorem numQ_bnd {kd wd mn bs j more : Nat} (hm : more ≤ 1) (h0 : 0 < j) (hj : j < 18446744073709551616) (hw : kd = 1 → wd + more - 1 ≤ 64 ∧ j < 2 ^ (wd + more - 1)) (hn : mn ≤ 52) (h2 : kd = 2 → j / 2 ^ (mn + more) ≤ 4095) (h4 : kd ≠ 1 → kd ≠ 2 → kd ≠ 3 → j < 4000) :
    0 < (numQ kd wd mn bs more j).1 ∧ (numQ kd wd mn bs more j).1 < 18446744073709551616 ∧ (numQ kd wd mn bs more j).2 ≤ 4200 := by
  unfold numQ
  by_cases k1 : kd = 1
  · rw [if_pos k1]
    obtain ⟨a, b⟩ := hw k1
    obtain ⟨f1, f2⟩ := poF_bnd (poL (wd + more - 1) j) (j % 2 ^ poL (wd + more - 1) j)
    have hL := poL_le b
    have hR := poR_ge b
    have hE := poE_lt (Nat.mod_lt j (Nat.two_pow_pos (poL (wd + more - 1) j)))
    have hp := Nat.two_pow_pos (poL (wd + more - 1) j - 2)
    have hp2 : 2 ^ (poL (wd + more - 1) j - 2) ≤ 2 ^ 62 := Nat.pow_le_pow_right (by decide) (by omega)
    refine ⟨by simp only; omega, by simp only; omega, by simp only; omega⟩
  · rw [if_neg k1]
    by_cases k2 : kd = 2
    · rw [if_pos k2]
      have hM := miM_lt (mn + more) j
      have hP := miM_pos (man := mn + more) h0
      have hp2 : 2 ^ (mn + more + 1) ≤ 2 ^ 54 := Nat.pow_le_pow_right (by decide) (by omega)
      have hE : miE (mn + more) j = max (j / 2 ^ (mn + more)) 1 := rfl
      have := h2 k2
      refine ⟨by simp only; omega, by simp only; omega, by simp only; omega⟩
    · rw [if_neg k2]
      by_cases k3 : kd = 3
      · rw [if_pos k3]
        refine ⟨h0, hj, by simp only; omega⟩
      · rw [if_neg k3]
        have := h4 k1 k2 k3
        have hd : j / 2 ^ more ≤ j := Nat.div_le_self _ _
        refine ⟨by simp only; omega, by simp only; omega, ?_⟩
        simp only
        generalize j / 2 ^ more = q at hd ⊢
        omega
theorem oddP_bnd {m : Nat} {e : Int} (h0 : 0 < m) (hm : m < 18446744073709551616) : 0 < (oddP 64 m e).1 ∧ (oddP 64 m e).1 < 18446744073709551616 ∧ e ≤ (oddP 64 m e).2 ∧ (oddP 64 m e).2 ≤ e + 64 := by
  have h1 := tzN_lt 64 m h0 (by omega)
  have h2 := tzN_div 64 m
  unfold oddP
  rw [if_neg (by omega)]
  refine ⟨?_, ?_, by simp only; omega, by simp only; omega⟩
  · rcases Nat.eq_zero_or_pos (m / 2 ^ tzN 64 m) with h3 | h3
    · rw [h3] at h2; omega
    · exact h3
  · exact Nat.lt_of_le_of_lt (Nat.div_le_self _ _) hm
theorem fK_nat (id : Int) : (fK id).toNat = 1 ∧ fK id = 1 ∨ (fK id).toNat = 2 ∧ fK id = 2 ∨ (fK id).toNat = 3 ∧ fK id = 3 ∨ (fK id).toNat = 4 ∧ fK id = 4 := by
  have := fK_bnd id
  omega
theorem scale_top {id : Int} (h1 : 1 ≤ id) (h2 : id < 15) (h : fK id = 4) : fitM id = 254 := by
  rcases id_cases h1 h2 with rfl | rfl | rfl | rfl | rfl | rfl | rfl | rfl | rfl | rfl | rfl | rfl | rfl | rfl <;> first | rfl | (exact absurd h (by decide))
theorem mag_range {id : Int} {key : Nat} (h1 : 1 ≤ id) (h2 : id < 15) (hk : (key : Int) ≤ fitM id) : 0 < (magV id 1 (2 * key + 1)).1 ∧ (magV id 1 (2 * key + 1)).1 < 18446744073709551616 ∧ -5000 ≤ (magV id 1 (2 * key + 1)).2 ∧ (magV id 1 (2 * key + 1)).2 ≤ 5000 ∧
    0 ≤ (2000 : Int) + (magV id 1 (2 * key + 1)).2 ∧ (magV id 1 (2 * key + 1)).1 * 2 ^ ((2000 : Int) + (magV id 1 (2 * key + 1)).2).toNat = uN (fK id).toNat (fW id).toNat (fM id).toNat (fB id).toNat (2 * key + 1) := by
  obtain ⟨w1, w2, w3, w4, -⟩ := fo_wide h1 h2
  obtain ⟨k0, kw, k1, k2, k4⟩ := mag_half h1 h2 hk
  have hKn := fK_nat id
  obtain ⟨b1, b2, b3⟩ := numQ_bnd (kd := (fK id).toNat) (wd := (fW id).toNat) (mn := (fM id).toNat) (bs := (fB id).toNat) (j := 2 * key + 1) (more := 1) (by decide) (by omega) kw
    (fun h => ⟨by omega, (k1 (by omega)).2⟩) w3 (fun h => k2 (by omega)) (fun h3 h4 h5 => by have := scale_top h1 h2 (by omega); omega)
  obtain ⟨c1, c2⟩ := numQ_one (fK id).toNat (fW id).toNat (fM id).toNat (fB id).toNat (2 * key + 1) (by omega) (fun h => ⟨by omega, by omega, by have := (k1 (by omega)).2; rw [show (fW id).toNat + 1 - 1 = (fW id).toNat by omega] at this; exact this⟩) (by omega)
  obtain ⟨d1, d2, d3, d4⟩ := oddP_bnd (e := (numQ (fK id).toNat (fW id).toNat (fM id).toNat (fB id).toNat 1 (2 * key + 1)).2) b1 b2
  have hv := oddP_val (f := 64) (m := (numQ (fK id).toNat (fW id).toNat (fM id).toNat (fB id).toNat 1 (2 * key + 1)).1) (K := 2000) (e := (numQ (fK id).toNat (fW id).toNat (fM id).toNat (fB id).toNat 1 (2 * key + 1)).2) c1
  refine ⟨d1, d2, ?_, ?_, ?_, ?_⟩
  · show -5000 ≤ (oddP 64 _ _).2
    omega
  · show (oddP 64 _ _).2 ≤ 5000
    omega
  · show 0 ≤ (2000 : Int) + (oddP 64 _ _).2
    omega
  · exact hv.trans c2
set_option maxRecDepth 100000 in
set_option maxHeartbeats 1000000 in
theorem behind_any (id : Int) (h1 : 1 ≤ id) (h2 : id < 15) (key : Nat) (hk : (key : Int) ≤ fitM id) (w : World) (hW : VaW w) :
    Calls Tryz.prog 146 #[.int .i64 id, .int .u64 key] w fun e w' => ∃ A n c, e = .returned (.agg #[.bool false, .slice A n c, .int .i64 (magV id 1 (2 * key + 1)).2, .int .i64 0]) ∧ IsT w' (.slice A n c) 128 (magV id 1 (2 * key + 1)).1 ∧ Below w.heap.size w w' := by
  obtain ⟨a1, a2, a3, a4, -, -⟩ := mag_range h1 h2 hk
  have hbt := fun w hW => vbetween_any id h1 h2 key hk w hW
  generalize magV id 1 (2 * key + 1) = p at hbt a1 a2 a3 a4 ⊢
  obtain ⟨m, t⟩ := p
  have hrs := Lib.hid fun w => rsize_any m t a1 a2 ⟨a3, a4⟩ w
  replace hbt := Lib.hid hbt
  clear a1 a2 a3 a4
  go_enter Tryz.func146, Tryz.ntmps146
  go_wp2_with fail
  refine (hbt.out _ (hW.below ((Below.refl _ _).alloc (Nat.le_refl _) _))).mono ?_
  rintro e w1 ⟨rfl, hb⟩
  go_wp2_with fail
  refine (hrs.out _).mono ?_
  rintro e w2 ⟨A, n, c, rfl, hv, hb2⟩
  have hp0 := pBlk_st _ _ _ _ _ (pBlk_st _ _ _ _ _ (pBlk_made w #[.bool false, .slice none 0 0, .int .i64 0, .int .i64 0] 71) hb) hb2
  have hB : Below w.heap.size w w2 := (((Below.refl _ _).alloc (Nat.le_refl _) _).trans (hb.mono (by simp))).trans (hb2.mono (by have := hb.size; simp at this; omega))
  go_wp2_with ((with_reducible show wpList _ _ _ (Oper.mk _ (Op.store 71 _ _) _ _ _ _ :: _) _ _); refine wpList_store_keep _ rfl 71 _ _ rfl w.heap.size #[.bool false, .slice A n c, .int .i64 t, .int .i64 0] #[.bool false, .slice none 0 0, .int .i64 0, .int .i64 0] 71 rfl rfl hp0 exact_size rfl (by simp [Value.oneCell']) noU ?_; intro w3 hp3 hb3 hk3; obtain ⟨s0, s1, s2, s3⟩ := cells4 hp3; have hv3 := hk3 _ _ _ hv)
  exact bodyPost_ret (v := .agg #[.bool false, .slice A n c, .int .i64 t, .int .i64 0]) (by simp [results, Tryz.results146, go_sem, s0, s1, s2, s3]) rfl ⟨A, n, c, rfl, hv3, hB.trans hb3⟩
end Go.Proofs.YtncfbleeidjflaaGreatDoor
namespace Go.Proofs.YtncfbleeidjflaaGreatDoor
open Go.RowKit Go.Cal
section
variable {w W W' : World} {neg : Bool} {A : Option Addr} {n c N : Nat} {t f : Int}
theorem boxW (h : LiveP w W [pT (.slice A n c) 128 N, pBlk w.heap.size #[.bool neg, .slice A n c, .int .i64 t, .int .i64 f] 71]) : LiveP w W [pT (.slice A n c) 128 N, pBlk w.heap.size #[.bool neg, .slice A n c, .int .i64 t, .int .i64 f] 71] ∧ w.heap.size < (W).heap.size ∧ (W).cell? ⟨w.heap.size, 0, none⟩ = some (.bool neg) ∧ (W).cell? ⟨w.heap.size, 1, none⟩ = some (.slice A n c) ∧ (W).cell? ⟨w.heap.size, 2, none⟩ = some (.int .i64 t) ∧ (W).cell? ⟨w.heap.size, 3, none⟩ = some (.int .i64 f) := by
  have p1 := h.get (P := pBlk w.heap.size #[.bool neg, .slice A n c, .int .i64 t, .int .i64 f] 71) (by repeat (first | exact List.mem_cons_self | apply List.mem_cons_of_mem))
  have hlt : w.heap.size < W.heap.size := by
    have := p1
    unfold pBlk at this
    exact (Array.getElem?_eq_some_iff.1 this).1
  exact ⟨h, hlt, p1.cell 0 _ rfl, p1.cell 1 _ rfl, p1.cell 2 _ rfl, p1.cell 3 _ rfl⟩
theorem keepW (h : LiveP w W [pT (.slice A n c) 128 N, pBlk w.heap.size #[.bool neg, .slice A n c, .int .i64 t, .int .i64 f] 71] ∧ w.heap.size < (W).heap.size ∧ (W).cell? ⟨w.heap.size, 0, none⟩ = some (.bool neg) ∧ (W).cell? ⟨w.heap.size, 1, none⟩ = some (.slice A n c) ∧ (W).cell? ⟨w.heap.size, 2, none⟩ = some (.int .i64 t) ∧ (W).cell? ⟨w.heap.size, 3, none⟩ = some (.int .i64 f)) (hb : Below W.heap.size W W') : LiveP w W' [pT (.slice A n c) 128 N, pBlk w.heap.size #[.bool neg, .slice A n c, .int .i64 t, .int .i64 f] 71] ∧ w.heap.size < (W').heap.size ∧ (W').cell? ⟨w.heap.size, 0, none⟩ = some (.bool neg) ∧ (W').cell? ⟨w.heap.size, 1, none⟩ = some (.slice A n c) ∧ (W').cell? ⟨w.heap.size, 2, none⟩ = some (.int .i64 t) ∧ (W').cell? ⟨w.heap.size, 3, none⟩ = some (.int .i64 f) := boxW (h.1.go hb)
theorem bhW {id : Int} {key m : Nat} {e : Int} (hW : VaW w) (h1 : 1 ≤ id) (h2 : id < 15) (hk : (key : Int) ≤ fitM id) (hm : magV id 1 (2 * key + 1) = (m, e)) (h : LiveP w W [pT (.slice A n c) 128 N, pBlk w.heap.size #[.bool neg, .slice A n c, .int .i64 t, .int .i64 f] 71] ∧ w.heap.size < (W).heap.size ∧ (W).cell? ⟨w.heap.size, 0, none⟩ = some (.bool neg) ∧ (W).cell? ⟨w.heap.size, 1, none⟩ = some (.slice A n c) ∧ (W).cell? ⟨w.heap.size, 2, none⟩ = some (.int .i64 t) ∧ (W).cell? ⟨w.heap.size, 3, none⟩ = some (.int .i64 f)) : Calls Tryz.prog 146 #[.int .i64 id, .int .u64 key] W fun x w' => ∃ A n c, x = .returned (.agg #[.bool false, .slice A n c, .int .i64 e, .int .i64 0]) ∧ IsT w' (.slice A n c) 128 m ∧ Below W.heap.size W w' := by
  have := behind_any id h1 h2 key hk W (hW.below h.1.below)
  rw [hm] at this
  exact this
theorem cmW {A2 : Option Addr} {n2 c2 m : Nat} {e r : Int} (h : LiveP w W [pT (.slice A n c) 128 N, pBlk w.heap.size #[.bool neg, .slice A n c, .int .i64 t, .int .i64 f] 71] ∧ w.heap.size < (W).heap.size ∧ (W).cell? ⟨w.heap.size, 0, none⟩ = some (.bool neg) ∧ (W).cell? ⟨w.heap.size, 1, none⟩ = some (.slice A n c) ∧ (W).cell? ⟨w.heap.size, 2, none⟩ = some (.int .i64 t) ∧ (W).cell? ⟨w.heap.size, 3, none⟩ = some (.int .i64 f)) (ht : -5000 ≤ t ∧ t ≤ 5000) (hf : -5000 ≤ f ∧ f ≤ 5000) (he : -5000 ≤ e ∧ e ≤ 5000) (hv : IsT W (.slice A2 n2 c2) 128 m) (hr : exC N t f m e 0 = r) :
    Calls Tryz.prog 148 #[.agg #[.bool neg, .slice A n c, .int .i64 t, .int .i64 f], .agg #[.bool false, .slice A2 n2 c2, .int .i64 e, .int .i64 0]] W fun x w' => x = .returned (.int .i64 r) ∧ Below W.heap.size W w' := by
  subst hr
  exact xcmp_any neg false t e f 0 (h.1.get (P := pT (.slice A n c) 128 N) (by repeat (first | exact List.mem_cons_self | apply List.mem_cons_of_mem))) hv ht he hf (by omega)
end
theorem wi_cases {id : Int} {key m : Nat} {e : Int} (N : Nat) (t f : Int) (he : 0 ≤ (2000 : Int) + e) (hm : m * 2 ^ ((2000 : Int) + e).toNat = uN (fK id).toNat (fW id).toNat (fM id).toNat (fB id).toNat (2 * key + 1)) :
    (exC N t f m e 0 = -1 ∧ wiF id (exP N t f) (exQ t f) key = true) ∨ (exC N t f m e 0 = 0 ∧ wiF id (exP N t f) (exQ t f) key = (key % 2 == 0)) ∨ (exC N t f m e 0 = 1 ∧ wiF id (exP N t f) (exQ t f) key = false) := by
  obtain ⟨a, b⟩ := exC_wi (kd := (fK id).toNat) (wd := (fW id).toNat) (mn := (fM id).toNat) (bs := (fB id).toNat) (key := key) (N := N) (t := t) (f := f) he hm
  have hc : exC N t f m e 0 = -1 ∨ exC N t f m e 0 = 0 ∨ exC N t f m e 0 = 1 := by
    unfold exC
    rcases cmpV_cases ((exP N t f * exQ e 0 : Nat) : Int) ((exP m e 0 * exQ t f : Nat) : Int) with ⟨_, h⟩ | ⟨_, h⟩ | ⟨_, h⟩ <;> rw [h] <;> decide
  unfold wiF wiN
  rcases hc with h | h | h
  · refine .inl ⟨h, ?_⟩
    rw [decide_eq_true (a.1 (by omega))]; rfl
  · refine .inr (.inl ⟨h, ?_⟩)
    rw [decide_eq_true (b.1 h), decide_eq_false (fun h' => by have := a.2 h'; omega)]
    simp
  · refine .inr (.inr ⟨h, ?_⟩)
    rw [decide_eq_false (fun h' => by have := a.2 h'; omega), decide_eq_false (fun h' => by have := b.2 h'; omega)]
    rfl
theorem and_one (key : Nat) (h : key < 18446744073709551616) : bits BinOp.and IntKind.u64 (key : Int) 1 = ((key % 2 : Nat) : Int) := by
  have := bits_and_u64_nat key 1 h (by decide)
  rw [Nat.and_one_is_mod] at this
  exact this
set_option maxRecDepth 100000 in
set_option maxHeartbeats 4000000 in
theorem within_any (id : Int) (h1 : 1 ≤ id) (h2 : id < 15) (neg : Bool) {A : Option Addr} {n c N : Nat} (t f : Int) (key : Nat) (hk : (key : Int) ≤ fitM id) {w : World} (hW : VaW w) (h : IsT w (.slice A n c) 128 N) (ht : -5000 ≤ t ∧ t ≤ 5000) (hf : -5000 ≤ f ∧ f ≤ 5000) :
    Calls Tryz.prog 167 #[.int .i64 id, .agg #[.bool neg, .slice A n c, .int .i64 t, .int .i64 f], .int .u64 key] w fun e w' => e = .returned (.bool (wiF id (exP N t f) (exQ t f) key)) ∧ Below w.heap.size w w' := by
  obtain ⟨a1, a2, a3, a4, a5, a6⟩ := mag_range h1 h2 hk
  have hkb : key < 18446744073709551616 := by have := (mag_half h1 h2 hk).word; omega
  obtain ⟨m, e, hm⟩ : ∃ m e, magV id 1 (2 * key + 1) = (m, e) := ⟨_, _, rfl⟩
  rw [hm] at a3 a4 a5 a6
  have hcs := wi_cases N t f a5 a6
  obtain ⟨r, hr⟩ : ∃ r, exC N t f m e 0 = r := ⟨_, rfl⟩
  obtain ⟨wi, hwi⟩ : ∃ b, wiF id (exP N t f) (exQ t f) key = b := ⟨_, rfl⟩
  rw [hr, hwi] at hcs
  rw [hwi]
  have he : -5000 ≤ e ∧ e ≤ 5000 := ⟨a3, a4⟩
  have hb0 := (Below.refl w.heap.size w).alloc (Nat.le_refl _) (.cells #[.bool neg, .slice A n c, .int .i64 t, .int .i64 f] 71)
  have hL := (((LiveP.start w).go hb0).put (pBlk_st _ _ _) (pBlk_made w #[.bool neg, .slice A n c, .int .i64 t, .int .i64 f] 71)).put (pT_st (.slice A n c) 128 N) (h.below hb0)
  have hS0 := boxW (hL.go (Below.refl _ _).drew)
  obtain ⟨-, hlt, d0, d1, d2, d3⟩ := boxW hL
  have han := and_one key hkb
  clear a1 a2 a3 a4 a5 a6 hwi h hb0 hL
  replace hm := Lib.hid hm
  replace hr := Lib.hid hr
  replace ht := Lib.hid ht
  replace hf := Lib.hid hf
  replace he := Lib.hid he
  replace hk := Lib.hid hk
  have hpar := Lib.hid (show (((key % 2 : Nat) : Int) == 0) = (key % 2 == 0) by rw [Bool.eq_iff_iff, beq_iff_eq, beq_iff_eq]; omega)
  rcases hcs with ⟨rfl, rfl⟩ | ⟨rfl, rfl⟩ | ⟨rfl, rfl⟩
  all_goals
    replace han := Lib.hid han
    go_enter Tryz.func167, Tryz.ntmps167
    go_wp2_with fail
    go_region_held3 (fun w' => LiveP w w' [pT (.slice A n c) 128 N, pBlk w.heap.size #[.bool neg, .slice A n c, .int .i64 t, .int .i64 f] 71] ∧ w.heap.size < (w').heap.size ∧ (w').cell? ⟨w.heap.size, 0, none⟩ = some (.bool neg) ∧ (w').cell? ⟨w.heap.size, 1, none⟩ = some (.slice A n c) ∧ (w').cell? ⟨w.heap.size, 2, none⟩ = some (.int .i64 t) ∧ (w').cell? ⟨w.heap.size, 3, none⟩ = some (.int .i64 f)) (first | exact hS0 | with_reducible assumption | exact keepW (by with_reducible assumption) (by with_reducible assumption))
      (first
        | (go_at_call 146; with_reducible refine (bhW hW h1 h2 hk.out hm.out (by with_reducible assumption)).mono ?_; rintro x w4 ⟨A4, n4, c4, rfl, hv4, hb4⟩)
        | (go_at_call 148; with_reducible refine (cmW (by with_reducible assumption) ht.out hf.out he.out hv4 hr.out).mono ?_; rintro x w5 ⟨rfl, hb5⟩))
    have hq : LiveP w w5 [pT (.slice A n c) 128 N, pBlk w.heap.size #[.bool neg, .slice A n c, .int .i64 t, .int .i64 f] 71] ∧ w.heap.size < (w5).heap.size ∧ (w5).cell? ⟨w.heap.size, 0, none⟩ = some (.bool neg) ∧ (w5).cell? ⟨w.heap.size, 1, none⟩ = some (.slice A n c) ∧ (w5).cell? ⟨w.heap.size, 2, none⟩ = some (.int .i64 t) ∧ (w5).cell? ⟨w.heap.size, 3, none⟩ = some (.int .i64 f) := by with_reducible assumption
    go_wp2
    (try rw [han.out, hpar.out])
    go_ret
    exact ⟨rfl, hq.1.below⟩
end Go.Proofs.YtncfbleeidjflaaGreatDoor
namespace Go.Proofs.YtncfbleeidjflaaGreatDoor
open Go.RowKit Go.Cal
theorem rzero_any (neg : Bool) {A : Option Addr} {n c k N : Nat} (t f : Int) {w : World} (h : IsT w (.slice A n c) k N) :
    Calls Tryz.prog 92 #[.agg #[.bool neg, .slice A n c, .int .i64 t, .int .i64 f]] w fun e w' => e = .returned (.bool (decide (N = 0))) ∧ Below w.heap.size w w' := by
  have hd : decide (N = 0) = ((n : Int) == 0) := by
    rw [Bool.eq_iff_iff, beq_iff_eq, decide_eq_true_iff]
    rcases isT_zero h with ⟨a, b⟩ | ⟨a, b⟩ <;> omega
  rw [hd]
  go_enter Tryz.func92, Tryz.ntmps92
  go_wp2
  go_ret
  exact ⟨rfl, (Below.refl _ _).alloc (Nat.le_refl _) _⟩
theorem most_fit {id : Int} {neg : Bool} (he : mostE id neg = 0) : mostV id neg ≤ fitM id ∧ mostR id neg = mostV id neg := by
  have h1 : mostR id neg = mostV id neg := by unfold mostR; rw [if_pos he]
  refine ⟨?_, h1⟩
  unfold mostV fitM
  by_cases h3 : fK id = 3
  · rw [if_pos h3]; split <;> omega
  · rw [if_neg h3, if_neg (fun h => h3 h.2)]
    exact Int.le_refl _
theorem most_wide {id : Int} {neg : Bool} (he : mostE id neg = 0) : (mostV id neg).toNat < 2 ^ (fW id).toNat ∧ 1 ≤ (fW id).toNat := by
  obtain ⟨h1, h2, h3⟩ := mostE_zero he
  obtain ⟨-, -, a, -, -, -, b⟩ := fo_nat h1 h2 neg
  exact ⟨b, by omega⟩
/-- What Nearest tells. -/
def nearV (id : Int) (neg : Bool) (P Q : Nat) : Int := if overB id neg P Q = true then mostV id neg else nearK id neg P Q
set_option maxRecDepth 100000 in
set_option maxHeartbeats 4000000 in
theorem nearest_any (id : Int) (neg : Bool) (he : mostE id neg = 0) {A : Option Addr} {n c N : Nat} (t f : Int) {w : World} (hW : VaW w) (h : IsT w (.slice A n c) 128 N) (ht : -5000 ≤ t ∧ t ≤ 5000) (hf : -5000 ≤ f ∧ f ≤ 5000) :
    Calls Tryz.prog 93 #[.int .i64 id, .bool neg, .agg #[.bool neg, .slice A n c, .int .i64 t, .int .i64 f]] w fun e w' => e = .returned (.tuple #[.int .u64 (nearV id neg (exP N t f) (exQ t f)), .bool (overB id neg (exP N t f) (exQ t f)), .int .i64 0]) ∧ Below w.heap.size w w' := by
  obtain ⟨h1, h2, h4⟩ := mostE_zero he
  obtain ⟨hmf, hmR⟩ := most_fit he
  obtain ⟨hmw, hw1⟩ := most_wide he
  obtain ⟨w1, w2, w3, w4, e1, e2, e3⟩ := fo_wide h1 h2
  have hwa : 1 ≤ fW id := by omega
  have hwb : fW id ≤ 64 := by omega
  replace e1 := Lib.hid e1
  clear e2 e3
  have hmb := mostV_bnd id neg
  have hmo := fun w hW => vmost_any id neg w hW
  rw [he, hmR] at hmo
  obtain ⟨mN, hmN⟩ : ∃ m : Nat, mostV id neg = (m : Int) := ⟨(mostV id neg).toNat, by omega⟩
  have hmt : (mostV id neg).toNat = mN := by omega
  obtain ⟨P, hP⟩ : ∃ P, exP N t f = P := ⟨_, rfl⟩
  obtain ⟨Q, hQ⟩ : ∃ Q, exQ t f = Q := ⟨_, rfl⟩
  have hwn := fun (W : World) (hW : VaW W) (hv : IsT W (.slice A n c) 128 N) (key : Nat) (hk : (key : Int) ≤ fitM id) => within_any id h1 h2 neg t f key hk hW hv ht hf
  rw [hP, hQ] at hwn ⊢
  have hov : overB id neg P Q = !wiF id P Q mN := by unfold overB; rw [hmt]
  have hnk : nearK id neg P Q = if fK id = 1 ∧ seek (wiF id P Q) mN (fW id).toNat 0 = 0 ∧ P ≠ 0 then 1 else seek (wiF id P Q) mN (fW id).toNat 0 := by unfold nearK; rw [hmt]
  have hP0 : P = 0 ↔ N = 0 := by
    rw [← hP]
    constructor
    · intro h0
      rcases Nat.eq_zero_or_pos N with h3 | h3
      · exact h3
      · have := exP_pos t f h3; omega
    · intro h0; rw [h0]; exact exP_zero t f
  have hnv : nearV id neg P Q = if (!wiF id P Q mN) = true then (mN : Int) else ((nearK id neg P Q : Nat) : Int) := by unfold nearV; rw [hov, hmN]
  rw [hnv, hov]
  rw [hmN] at hmo hmf hmb
  have hrt := Lib.hid (fun (W : World) (hv : IsT W (.slice A n c) 128 N) => xright_yes neg t f hv ht hf)
  have hb0 := (Below.refl w.heap.size w).alloc (Nat.le_refl _) (.cells #[.bool neg, .slice A n c, .int .i64 t, .int .i64 f] 71)
  have hL := (((LiveP.start w).go hb0).put (pBlk_st _ _ _) (pBlk_made w #[.bool neg, .slice A n c, .int .i64 t, .int .i64 f] 71)).put (pT_st (.slice A n c) 128 N) (h.below hb0)
  replace hmo := Lib.hid hmo
  replace hwn := Lib.hid hwn
  obtain ⟨Wn, hWn⟩ : ∃ W, (fW id).toNat = W := ⟨_, rfl⟩
  rw [hWn] at hnk hmw hw1 w1
  have hbit := Lib.hid (show IntKind.u64.wrap ((2 : Int) ^ (Wn - 1)) = ((2 ^ (Wn - 1) : Nat) : Int) by
    have h3 : 2 ^ (Wn - 1) ≤ 2 ^ 63 := Nat.pow_le_pow_right (by decide) (by omega)
    have e5 : (2 : Int) ^ (Wn - 1) = ((2 ^ (Wn - 1) : Nat) : Int) := by push_cast; rfl
    rw [e5, wrap_u64]
    generalize 2 ^ (Wn - 1) = x at h3 ⊢
    omega)
  have hhalf := Lib.hid (show 2 ^ Wn / 2 = 2 ^ (Wn - 1) by
    obtain ⟨y, rfl⟩ : ∃ y, Wn = y + 1 := ⟨Wn - 1, by omega⟩
    rw [Nat.pow_succ, show y + 1 - 1 = y by omega]
    omega)
  have hpw := Lib.hid (show 2 ^ Wn ≤ 18446744073709551616 from Nat.pow_le_pow_right (n := 2) (by decide) w1)
  clear hov hnv hmt hmR h hb0 he hP hQ
  cases hwm : wiF id P Q mN with
  | false =>
    simp only [Bool.not_false, if_true]
    have hwm' := Lib.hid hwm
    go_enter Tryz.func93, Tryz.ntmps93
    go_wp2_with fail
    refine (hmo.out _ (hW.below hL.below)).mono ?_
    rintro e u1 ⟨rfl, hb1⟩
    replace hL := hL.go hb1
    obtain ⟨r0, r1, r2, r3⟩ := cells4 (hL.get (P := pBlk w.heap.size #[.bool neg, .slice A n c, .int .i64 t, .int .i64 f] 71) (by repeat (first | exact List.mem_cons_self | apply List.mem_cons_of_mem)))
    go_wp2_with fail
    refine (hrt.out _ (hL.get (P := pT (.slice A n c) 128 N) (by repeat (first | exact List.mem_cons_self | apply List.mem_cons_of_mem)))).mono ?_
    rintro e u2 ⟨rfl, hb2⟩
    replace hL := hL.go hb2
    clear r0 r1 r2 r3
    obtain ⟨r0, r1, r2, r3⟩ := cells4 (hL.get (P := pBlk w.heap.size #[.bool neg, .slice A n c, .int .i64 t, .int .i64 f] 71) (by repeat (first | exact List.mem_cons_self | apply List.mem_cons_of_mem)))
    go_wp2_with fail
    refine (hwn.out _ (hW.below hL.below) (hL.get (P := pT (.slice A n c) 128 N) (by repeat (first | exact List.mem_cons_self | apply List.mem_cons_of_mem))) mN hmf).mono ?_
    rintro e u3 ⟨rfl, hb3⟩
    replace hL := hL.go hb3
    rw [hwm'.out]
    go_wp2
    go_ret3
    exact ⟨rfl, hL.below⟩
  | true =>
    simp only [Bool.not_true, Bool.false_eq_true, if_false]
    have hwm' := Lib.hid hwm
    have hfo := Lib.hid (fun (W : World) (hW : VaW W) => fo_of id W hW.frm h1 h2)
    go_enter Tryz.func93, Tryz.ntmps93
    go_wp2_with fail
    refine (hmo.out _ (hW.below hL.below)).mono ?_
    rintro e u1 ⟨rfl, hb1⟩
    replace hL := hL.go hb1
    obtain ⟨r0, r1, r2, r3⟩ := cells4 (hL.get (P := pBlk w.heap.size #[.bool neg, .slice A n c, .int .i64 t, .int .i64 f] 71) (by repeat (first | exact List.mem_cons_self | apply List.mem_cons_of_mem)))
    go_wp2_with fail
    refine (hrt.out _ (hL.get (P := pT (.slice A n c) 128 N) (by repeat (first | exact List.mem_cons_self | apply List.mem_cons_of_mem)))).mono ?_
    rintro e u2 ⟨rfl, hb2⟩
    replace hL := hL.go hb2
    clear r0 r1 r2 r3
    obtain ⟨r0, r1, r2, r3⟩ := cells4 (hL.get (P := pBlk w.heap.size #[.bool neg, .slice A n c, .int .i64 t, .int .i64 f] 71) (by repeat (first | exact List.mem_cons_self | apply List.mem_cons_of_mem)))
    go_wp2_with fail
    refine (hwn.out _ (hW.below hL.below) (hL.get (P := pT (.slice A n c) 128 N) (by repeat (first | exact List.mem_cons_self | apply List.mem_cons_of_mem))) mN hmf).mono ?_
    rintro e u3 ⟨rfl, hb3⟩
    replace hL := hL.go hb3
    rw [hwm'.out]
    go_wp2_with fail
    refine (hfo.out _ (hW.below hL.below)).mono ?_
    rintro e u4 ⟨rfl, hb4⟩
    replace hL := hL.go hb4
    go_wp2_with fail
    rw [hbit.out]
    replace hL := (hL.go ((Below.refl _ _).alloc (Nat.le_refl _) (.cells #[.int .i64 (fK id), .int .i64 (fW id), .int .i64 (fM id), .int .i64 (fB id), .int .u64 (fT id), .int .u64 (fI id), .int .u64 (fN id)] 58))).put (pBlk_st _ _ _) (pBlk_made u4 #[.int .i64 (fK id), .int .i64 (fW id), .int .i64 (fM id), .int .i64 (fB id), .int .u64 (fT id), .int .u64 (fI id), .int .u64 (fN id)] 58)
    obtain ⟨K0, hK0⟩ : ∃ K, seek (wiF id P Q) mN Wn 0 = K := ⟨_, rfl⟩
    rw [hK0] at hnk
    replace hnk := Lib.hid hnk
    replace hP0 := Lib.hid hP0
    clear r0 r1 r2 r3 hb1 hb2 hb3 hb4
    obtain ⟨g4, hg4⟩ : ∃ g, u4.heap.size = g := ⟨_, rfl⟩
    rw [hg4] at hL ⊢
    go_loopg [13, 14, 15] Wn (fun g kv bv xv wr => ∃ key : Nat, kv = .int .u64 key ∧ bv = .int .u64 ((2 ^ g / 2 : Nat) : Int) ∧ seek (wiF id P Q) mN g key = K0 ∧ key ≤ mN ∧ key + 2 ^ g ≤ 18446744073709551616 ∧ LiveP w wr (pBlk g4 #[.int .i64 (fK id), .int .i64 (fW id), .int .i64 (fM id), .int .i64 (fB id), .int .u64 (fT id), .int .u64 (fI id), .int .u64 (fN id)] 58 :: [pT (.slice A n c) 128 N, pBlk w.heap.size #[.bool neg, .slice A n c, .int .i64 t, .int .i64 f] 71]))
    case atStart => exact ⟨0, rfl, by rw [hhalf.out], hK0, Nat.zero_le _, by rw [Nat.zero_add]; exact hpw.out, hL⟩
    case round =>
      obtain ⟨key, rfl, rfl, hsk, hkm, hk2, hLr⟩ := hrel
      obtain ⟨r0, r1, r2, r3⟩ := cells4 (hLr.get (P := pBlk w.heap.size #[.bool neg, .slice A n c, .int .i64 t, .int .i64 f] 71) (by repeat (first | exact List.mem_cons_self | apply List.mem_cons_of_mem)))
      have hq := hLr.get (P := pBlk g4 #[.int .i64 (fK id), .int .i64 (fW id), .int .i64 (fM id), .int .i64 (fB id), .int .u64 (fT id), .int .u64 (fI id), .int .u64 (fN id)] 58) (by repeat (first | exact List.mem_cons_self | apply List.mem_cons_of_mem))
      have s0 := hq.cell 0 _ rfl
      by_cases hg0 : gk = 0
      · subst hg0
        rw [show ((2 ^ 0 / 2 : Nat) : Int) = 0 from rfl]
        obtain rfl : key = K0 := hsk
        have hnc : (fK id == 1) = false ∧ nearK id neg P Q = key ∨ (fK id == 1) = true ∧ 0 < key ∧ nearK id neg P Q = key ∨ (fK id == 1) = true ∧ key = 0 ∧ decide (N = 0) = true ∧ nearK id neg P Q = 0 ∨ (fK id == 1) = true ∧ key = 0 ∧ decide (N = 0) = false ∧ nearK id neg P Q = 1 := by
          rw [hnk.out]
          by_cases k1 : fK id = 1
          · have k1' : (fK id == 1) = true := by simp [k1]
            by_cases k2 : key = 0
            · by_cases k3 : N = 0
              · exact .inr (.inr (.inl ⟨k1', k2, decide_eq_true k3, by rw [if_neg (fun h => h.2.2 (hP0.out.2 k3)), k2]⟩))
              · exact .inr (.inr (.inr ⟨k1', k2, decide_eq_false k3, by rw [if_pos ⟨k1, k2, fun h => k3 (hP0.out.1 h)⟩]⟩))
            · exact .inr (.inl ⟨k1', by omega, by rw [if_neg (fun h => k2 h.2.1)]⟩)
          · exact .inl ⟨by simp [k1], by rw [if_neg (fun h => k1 h.1)]⟩
        have hzr := Lib.hid (rzero_any neg t f (hLr.get (P := pT (.slice A n c) 128 N) (by repeat (first | exact List.mem_cons_self | apply List.mem_cons_of_mem))))
        clear hnk hP0 hwn hmo hfo hrt
        rcases hnc with ⟨k1, hn⟩ | ⟨k1, k2, hn⟩ | ⟨k1, rfl, k3, hn⟩ | ⟨k1, rfl, k3, hn⟩
        · replace hn := Lib.hid hn
          go_wp2
          rw [hn.out]
          go_ret3
          exact ⟨rfl, hLr.below⟩
        · replace hn := Lib.hid hn
          have k4 : ((key : Int) == 0) = false := by simp; omega
          go_wp2
          rw [hn.out]
          go_ret3
          exact ⟨rfl, hLr.below⟩
        · replace hn := Lib.hid hn
          replace k3 := Lib.hid k3
          go_wp2_with fail
          refine hzr.out.mono ?_
          rintro e u5 ⟨rfl, hb5⟩
          rw [k3.out]
          go_wp2
          rw [hn.out]
          go_ret3
          exact ⟨rfl, (hLr.go hb5).below⟩
        · replace hn := Lib.hid hn
          replace k3 := Lib.hid k3
          go_wp2_with fail
          refine hzr.out.mono ?_
          rintro e u5 ⟨rfl, hb5⟩
          rw [k3.out]
          go_wp2
          rw [hn.out]
          go_ret3
          exact ⟨rfl, (hLr.go hb5).below⟩
      · obtain ⟨k, rfl⟩ : ∃ k, gk = k + 1 := ⟨gk - 1, by omega⟩
        rw [show 2 ^ (k + 1) / 2 = 2 ^ k by rw [Nat.pow_succ]; omega]
        have hB2 : ((2 ^ k : Nat) : Int) / 2 = ((2 ^ k / 2 : Nat) : Int) := by push_cast; rfl
        have hBp := Nat.two_pow_pos k
        rw [Nat.pow_succ] at hk2
        unfold seek at hsk
        obtain ⟨B, hB⟩ : ∃ B, 2 ^ k = B := ⟨_, rfl⟩
        rw [hB] at hB2 hBp hk2 hsk ⊢
        replace hB2 := Lib.hid hB2
        replace hB := Lib.hid hB
        have hsub : (key : Int) + (B : Int) - 1 = ((key + B - 1 : Nat) : Int) := by omega
        replace hsub := Lib.hid hsub
        by_cases hle : key + B ≤ mN
        · cases hwb : wiF id P Q (key + B - 1) with
          | true =>
            rw [if_neg (fun h => by rw [hwb] at h; exact absurd h.2 (by decide))] at hsk
            replace hwb := Lib.hid hwb
            replace hsk := Lib.hid hsk
            go_wp2_with fail
            rw [hsub.out]
            refine (hwn.out _ (hW.below hLr.below) (hLr.get (P := pT (.slice A n c) 128 N) (by repeat (first | exact List.mem_cons_self | apply List.mem_cons_of_mem))) (key + B - 1) (by omega)).mono ?_
            rintro e u5 ⟨rfl, hb5⟩
            rw [hwb.out]
            go_wp2
            go_roundg k
            case measure => omega
            case rel => exact ⟨key, rfl, by rw [hB2.out, hB.out], hsk.out, hkm, by rw [hB.out]; omega, hLr.go hb5⟩
          | false =>
            rw [if_pos ⟨hle, hwb⟩] at hsk
            replace hwb := Lib.hid hwb
            replace hsk := Lib.hid hsk
            go_wp2_with fail
            rw [hsub.out]
            refine (hwn.out _ (hW.below hLr.below) (hLr.get (P := pT (.slice A n c) 128 N) (by repeat (first | exact List.mem_cons_self | apply List.mem_cons_of_mem))) (key + B - 1) (by omega)).mono ?_
            rintro e u5 ⟨rfl, hb5⟩
            rw [hwb.out]
            go_wp2
            go_roundg k
            case measure => omega
            case rel => exact ⟨key + B, by push_cast; rfl, by rw [hB2.out, hB.out], hsk.out, hle, by rw [hB.out]; omega, hLr.go hb5⟩
        · rw [if_neg (fun h => hle h.1)] at hsk
          replace hsk := Lib.hid hsk
          have hle1 : ¬ (key : Int) + (B : Int) ≤ (mN : Int) := by omega
          have hle2 : decide ((key : Int) + (B : Int) ≤ (mN : Int)) = false := decide_eq_false hle1
          go_wp2
          go_roundg k
          case measure => omega
          case rel => exact ⟨key, rfl, by rw [hB2.out, hB.out], hsk.out, hkm, by rw [hB.out]; omega, hLr⟩
end Go.Proofs.YtncfbleeidjflaaGreatDoor
namespace Go.Proofs.YtncfbleeidjflaaGreatDoor
open Go.RowKit Go.Cal
theorem large_cases {id : Int} (h1 : 1 ≤ id) (h2 : id < 15) (mode : Int) (neg : Bool) :
    ((mode == 1) = true ∧ largeV id mode neg = patV id neg (mostV id neg)) ∨ ((mode == 1) = false ∧ (fK id == 1) = true ∧ largeV id mode neg = patV id neg (mostV id neg)) ∨
    ((mode == 1) = false ∧ (fK id == 1) = false ∧ (bits BinOp.or IntKind.u64 (fI id) (fN id) == 0) = true ∧ largeV id mode neg = patV id neg (mostV id neg)) ∨
    ((mode == 1) = false ∧ (fK id == 1) = false ∧ (bits BinOp.or IntKind.u64 (fI id) (fN id) == 0) = false ∧ (fI id == 0) = true ∧ largeV id mode neg = fN id) ∨
    ((mode == 1) = false ∧ (fK id == 1) = false ∧ (bits BinOp.or IntKind.u64 (fI id) (fN id) == 0) = false ∧ (fI id == 0) = false ∧ neg = false ∧ largeV id mode neg = fI id) ∨
    ((mode == 1) = false ∧ (fK id == 1) = false ∧ (bits BinOp.or IntKind.u64 (fI id) (fN id) == 0) = false ∧ (fI id == 0) = false ∧ neg = true ∧ fK id ≠ 4 ∧ fI id < 2 ^ ((fW id).toNat - 1) ∧ largeV id mode neg = fI id + 2 ^ ((fW id).toNat - 1)) := by
  by_cases hm : mode = 1
  · left
    refine ⟨by simp [hm], ?_⟩
    unfold largeV
    rw [if_pos (.inl hm)]
  · right
    have hm' : (mode == 1) = false := by simp [hm]
    simp only [hm', true_and]
    have hl : largeV id mode neg = largeV id 2 neg := by
      unfold largeV
      simp only [hm, false_or, show ¬ ((2 : Int) = 1) by decide]
    rw [hl]
    clear hl hm hm'
    rcases id_cases h1 h2 with rfl | rfl | rfl | rfl | rfl | rfl | rfl | rfl | rfl | rfl | rfl | rfl | rfl | rfl <;> cases neg <;> decide +kernel
set_option maxRecDepth 100000 in
set_option maxHeartbeats 1000000 in
theorem rlarge_any (id mode : Int) (neg : Bool) (he : mostE id neg = 0) (w : World) (hW : VaW w) :
    Calls Tryz.prog 94 #[.agg #[.int .i64 (fK id), .int .i64 (fW id), .int .i64 (fM id), .int .i64 (fB id), .int .u64 (fT id), .int .u64 (fI id), .int .u64 (fN id)], .int .i64 id, .int .i64 mode, .bool neg] w fun e w' => e = .returned (.int .u64 (largeV id mode neg)) ∧ Below w.heap.size w w' := by
  obtain ⟨h1, h2, h4⟩ := mostE_zero he
  obtain ⟨hmf, hmR⟩ := most_fit he
  obtain ⟨w1, w2, -⟩ := fo_wide h1 h2
  have hbn := mostV_bnd id neg
  have hmo := fun w hW => vmost_any id neg w hW
  rw [he, hmR] at hmo
  replace hmo := Lib.hid hmo
  have hpt := Lib.hid (fun w hW => vpat_any id neg (mostV id neg) he (by omega) (Int.le_refl _) w hW)
  have hL := (((LiveP.start w).go ((Below.refl w.heap.size w).alloc (Nat.le_refl _) (.cells #[.int .i64 (fK id), .int .i64 (fW id), .int .i64 (fM id), .int .i64 (fB id), .int .u64 (fT id), .int .u64 (fI id), .int .u64 (fN id)] 58))).put (pBlk_st _ _ _) (pBlk_made w #[.int .i64 (fK id), .int .i64 (fW id), .int .i64 (fM id), .int .i64 (fB id), .int .u64 (fT id), .int .u64 (fI id), .int .u64 (fN id)] 58))
  have hlc := large_cases h1 h2 mode neg
  have hft := ft_bounds id
  have hsg := Lib.hid fun (hk : fK id ≠ 4) w => fo_sign (fK id) (fW id) (fM id) (fB id) (fT id) (fI id) (fN id) w (by omega) (by omega) hk
  have hor := Lib.hid fun (hi : fI id < 2 ^ ((fW id).toNat - 1)) => pat_or (fI id) ((fW id).toNat - 1) (by omega) (by omega) hi
  clear h1 h2 h4 he hmf hmR hbn w1 w2 hft
  rcases hlc with ⟨a1, hv⟩ | ⟨a1, a2, hv⟩ | ⟨a1, a2, a3, hv⟩ | ⟨a1, a2, a3, a4, hv⟩ | ⟨a1, a2, a3, a4, rfl, hv⟩ | ⟨a1, a2, a3, a4, rfl, a5, a6, hv⟩
  case inr.inr.inr.inr.inr =>
    rw [hv]
    clear hv
    have hsg' := Lib.hid (hsg.out a5)
    have hor' := Lib.hid (hor.out a6)
    clear hsg hor
    replace a5 := Lib.hid a5
    replace a6 := Lib.hid a6
    go_enter Tryz.func94, Tryz.ntmps94
    go_wp2_with fail
    refine (hmo.out _ (hW.below hL.below)).mono ?_
    rintro e u1 ⟨rfl, hb1⟩
    replace hL := hL.go hb1
    go_wp2_with fail
    refine (hpt.out _ (hW.below hL.below)).mono ?_
    rintro e u2 ⟨rfl, hb2⟩
    replace hL := hL.go hb2
    have hq := hL.get (P := pBlk w.heap.size #[.int .i64 (fK id), .int .i64 (fW id), .int .i64 (fM id), .int .i64 (fB id), .int .u64 (fT id), .int .u64 (fI id), .int .u64 (fN id)] 58) (by repeat (first | exact List.mem_cons_self | apply List.mem_cons_of_mem))
    have q0 := hq.cell 0 _ rfl
    have q1 := hq.cell 1 _ rfl
    have q2 := hq.cell 2 _ rfl
    have q3 := hq.cell 3 _ rfl
    have q4 := hq.cell 4 _ rfl
    have q5 := hq.cell 5 _ rfl
    have q6 := hq.cell 6 _ rfl
    have hzl : w.heap.size < u2.heap.size := by
      have := hq
      unfold pBlk at this
      exact (Array.getElem?_eq_some_iff.1 this).1
    go_wp2_with fail
    have k0 := fun (u : Later u2.heap.size u2) => u.cell w.heap.size 0 _ hzl q0
    have k1 := fun (u : Later u2.heap.size u2) => u.cell w.heap.size 1 _ hzl q1
    have k2 := fun (u : Later u2.heap.size u2) => u.cell w.heap.size 2 _ hzl q2
    have k3 := fun (u : Later u2.heap.size u2) => u.cell w.heap.size 3 _ hzl q3
    have k4 := fun (u : Later u2.heap.size u2) => u.cell w.heap.size 4 _ hzl q4
    have k5 := fun (u : Later u2.heap.size u2) => u.cell w.heap.size 5 _ hzl q5
    have k6 := fun (u : Later u2.heap.size u2) => u.cell w.heap.size 6 _ hzl q6
    refine wp_region_later (B := u2.heap.size) (by kernel_rfl) (by kernel_rfl) (Below.refl _ _) ?_
    repeat (go_big_quiet_step ((go_at_call 89; exact Calls.later_of (Nat.le_refl _) (hsg'.out _))))
    refine wpQuiet_nil ?_
    intro w2 hb3
    go_wp2
    rw [hor'.out]
    go_ret
    exact ⟨rfl, hL.below.trans (hb3.mono hL.below.size)⟩
  all_goals
    rw [hv]
    clear hv
    go_enter Tryz.func94, Tryz.ntmps94
    go_wp2_with fail
    refine (hmo.out _ (hW.below hL.below)).mono ?_
    rintro e u1 ⟨rfl, hb1⟩
    replace hL := hL.go hb1
    go_wp2_with fail
    refine (hpt.out _ (hW.below hL.below)).mono ?_
    rintro e u2 ⟨rfl, hb2⟩
    replace hL := hL.go hb2
    have hq := hL.get (P := pBlk w.heap.size #[.int .i64 (fK id), .int .i64 (fW id), .int .i64 (fM id), .int .i64 (fB id), .int .u64 (fT id), .int .u64 (fI id), .int .u64 (fN id)] 58) (by repeat (first | exact List.mem_cons_self | apply List.mem_cons_of_mem))
    have q0 := hq.cell 0 _ rfl
    have q1 := hq.cell 1 _ rfl
    have q2 := hq.cell 2 _ rfl
    have q3 := hq.cell 3 _ rfl
    have q4 := hq.cell 4 _ rfl
    have q5 := hq.cell 5 _ rfl
    have q6 := hq.cell 6 _ rfl
    go_wp2
    go_ret
    exact ⟨rfl, hL.below⟩
end Go.Proofs.YtncfbleeidjflaaGreatDoor
