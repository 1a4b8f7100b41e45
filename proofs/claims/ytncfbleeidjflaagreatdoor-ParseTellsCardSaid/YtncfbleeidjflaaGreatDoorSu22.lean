/- Exact numbers: Right, Dec, size, scaled, walked. Conditions: none. -/
/- Values: the numbers of magnitudes, walked. Conditions: the variables that values read. -/
/- Values: At, Between, Pattern, walked. Conditions: the variables that values read. -/
/- Values: Pattern, walked. Conditions: the variables that values read. -/
/- A whole struct stored into a block of its own, numbers kept: a law at the operation. Conditions: none. -/
import Derived.Test.YtncfbleeidjflaaGreatDoorSu15
import Derived.Test.YtncfbleeidjflaaGreatDoorSu19
import Derived.Test.YtncfbleeidjflaaGreatDoorSu01
import Derived.Test.YtncfbleeidjflaaGreatDoorSu20
import Derived.Test.YtncfbleeidjflaaGreatDoorSu05
namespace Go.Proofs.YtncfbleeidjflaaGreatDoor
open Go.RowKit Go.Cal
theorem xin_yes (n : Int) (h1 : -5000 ≤ n) (h2 : n ≤ 5000) (w : World) : Calls Tryz.prog 166 #[.int .i64 n] w fun e w' => e = .returned (.bool true) ∧ w = w' := by
  go_enter Tryz.func166, Tryz.ntmps166
  go_wp2
  go_ret
  exact ⟨rfl, rfl⟩
set_option maxRecDepth 100000 in
set_option maxHeartbeats 1000000 in
theorem xright_yes {w : World} {v : Value} {N : Nat} (neg : Bool) (t f : Int) (h : IsT w v 128 N) (ht : -5000 ≤ t ∧ t ≤ 5000) (hf : -5000 ≤ f ∧ f ≤ 5000) :
    Calls Tryz.prog 91 #[.agg #[.bool neg, v, .int .i64 t, .int .i64 f]] w fun e w' => e = .returned (.bool true) ∧ Below w.heap.size w w' := by
  obtain ⟨A, c, zs, rfl, rd, hc, hcm, hl, nr⟩ := h
  have hb0 := (Below.refl w.heap.size w).alloc (Nat.le_refl _) (.cells #[.bool neg, .slice A zs.length c, .int .i64 t, .int .i64 f] 71)
  obtain ⟨ht1, ht2⟩ := ht
  obtain ⟨hf1, hf2⟩ := hf
  by_cases h0 : zs = []
  · subst h0
    go_enter Tryz.func91, Tryz.ntmps91
    go_wp2_with fail
    refine (xin_yes t ht1 ht2 _).mono ?_
    rintro e w1 ⟨rfl, rfl⟩
    go_wp2_with fail
    refine (xin_yes f hf1 hf2 _).mono ?_
    rintro e w1 ⟨rfl, rfl⟩
    go_wp2
    go_ret
    exact ⟨rfl, hb0⟩
  · have hpos := List.length_pos_iff.2 h0
    obtain ⟨b, off, rfl, hbB, hcell⟩ := rd.at (i := 0) hpos
    obtain ⟨n, hn⟩ : ∃ n, zs.length = n := ⟨_, rfl⟩
    have hlast := nr.top h0
    have hx := hcell (n - 1) (by omega)
    have hxv : zs.getD (n - 1) 0 = zs.getLast h0 := by
      rw [List.getLast_eq_getElem, List.getD_eq_getElem?_getD, List.getElem?_eq_getElem (by omega)]
      simp [hn]
    rw [hxv] at hx
    obtain ⟨x, hxx⟩ : ∃ x, zs.getLast h0 = x := ⟨_, rfl⟩
    rw [hxx] at hx hlast
    rw [hn] at hc hl hb0 ⊢
    have hx' : (w.alloc (.cells #[.bool neg, .slice (some ⟨b, off, none⟩) n c, .int .i64 t, .int .i64 f] 71)).cell? ⟨b, off + (n - 1), none⟩ = some (.int .u64 (x : Nat)) := by
      rw [World.cell?_alloc_lt _ _ _ hbB]; exact hx
    have hn0 : 0 < n := by omega
    have hxn : ((x : Int) == 0) = false := by simpa using hlast
    have hxm : ((x : Int) != 0) = true := by simpa using hlast
    clear hxv hxx hcell rd nr hlast hn hpos
    go_enter Tryz.func91, Tryz.ntmps91
    go_wp2_with fail
    refine (xin_yes t ht1 ht2 _).mono ?_
    rintro e w1 ⟨rfl, rfl⟩
    go_wp2_with fail
    refine (xin_yes f hf1 hf2 _).mono ?_
    rintro e w1 ⟨rfl, rfl⟩
    go_wp2
    go_ret
    exact ⟨rfl, hb0⟩
theorem pBlk.setX {g : Nat} {cs : Array Value} {t : TypeId} {w : World} (h : pBlk g cs t w) (i : Nat) (u : Value) : pBlk g (cs.setIfInBounds i u) t (w.setCell ⟨g, i, none⟩ u) := Lib.heap_setCell_same (i := i) h u
theorem IsT.apartX {w : World} {v u : Value} {k N g i : Nat} {cs : Array Value} {t : TypeId} (h : IsT w v k N) (hp : pBlk g cs t w) (hy : ∀ x ∈ cs.toList, ∀ n, x ≠ .int .u64 n) : IsT (w.setCell ⟨g, i, none⟩ u) v k N := by
  obtain ⟨A, c, zs, h1, h2, h3⟩ := h
  refine ⟨A, c, zs, h1, ⟨?_, fun b off e j hj => ?_⟩, h3⟩
  · rw [size_setCell]; exact h2.place
  · have hc := h2.cells b off e j hj
    by_cases hb : b = g
    · subst hb
      exfalso
      rw [cell_of_row w b _ _ _ _ hp] at hc
      have hm : Value.int .u64 ((zs.getD j 0 : Nat) : Int) ∈ cs.toList := by
        have := Array.mem_of_getElem? hc
        simpa using this
      exact hy _ hm _ rfl
    · rw [World.cell?_setCell_other _ _ _ _ (fun e => hb (by injection e with e; exact e.symm))]
      exact hc
theorem isT_fitX {w : World} {v : Value} {k N : Nat} (h : IsT w v k N) (hN : N < 18446744073709551616 ^ 128) : IsT w v 128 N := by
  obtain ⟨A, c, zs, h1, h2, h3, h4, h5, h6⟩ := h
  exact ⟨A, c, zs, h1, h2, h3, h4, h6.length_le hN, h6⟩
theorem bits_b {w : World} {v : Value} {k N : Nat} (h : IsT w v k N) (hk : k ≤ 1048576 := by decide) :
    Calls Tryz.prog 45 #[v] w fun e w' => e = .returned (.int .i64 (blen N : Nat)) ∧ Below w.heap.size w w' := by
  obtain ⟨A1, c1, z1, rfl, r1, hc1, hl1, d1, nr⟩ := h
  refine (bits_any c1 w r1 hc1 (by omega) nr.dig).mono ?_
  rintro e w' ⟨he, rfl⟩
  rw [nr.val] at he
  exact ⟨he, Below.refl _ _⟩
set_option maxRecDepth 100000 in
set_option maxHeartbeats 1000000 in
theorem xdec_yes {w : World} {d : Value} {m N : Nat} (neg : Bool) (k : Int) (h : IsN w d m N) (hm : m ≤ 1048576) (hN : N < 18446744073709551616 ^ 128) (hk : -5000 ≤ k ∧ k ≤ 5000) :
    Calls Tryz.prog 97 #[.bool neg, d, .int .i64 k] w fun e w' => ∃ v, e = .returned (.tuple #[.agg #[.bool neg, v, .int .i64 k, .int .i64 k], .bool true]) ∧ IsT w' v 128 N ∧ Below w.heap.size w w' := by
  have hnm := Lib.hid (norm_t (h.below ((Below.refl _ _).alloc (Nat.le_refl _) (.cells #[.bool false, .slice none 0 0, .int .i64 0, .int .i64 0] 71))) hm)
  obtain ⟨A0, c0, z0, rfl, -⟩ := id h
  replace hN := Lib.hid hN
  clear h
  go_enter Tryz.func97, Tryz.ntmps97
  go_wp2_with fail
  refine hnm.out.mono ?_
  rintro e w1 ⟨v, rfl, hv, hb⟩
  obtain ⟨A, c, zs, rfl, -⟩ := id hv
  obtain ⟨n, hn⟩ : ∃ n, zs.length = n := ⟨_, rfl⟩
  rw [hn] at hv ⊢
  clear hn hnm
  have hv128 : IsT w1 (.slice A n c) 128 N := isT_fitX hv hN.out
  have hp := pBlk_st _ _ _ _ _ (pBlk_st _ _ _ _ _ (pBlk_made w #[.bool false, .slice none 0 0, .int .i64 0, .int .i64 0] 71) hb) ((Below.refl _ _).alloc (Nat.le_refl _) (.cells #[.bool neg, .slice A n c, .int .i64 k, .int .i64 k] 71))
  have hB : Below w.heap.size w w1 := ((Below.refl _ _).alloc (Nat.le_refl _) _).trans (hb.mono (by simp))
  have hz := hb.size
  simp at hz
  have hrt := Lib.hid (xright_yes neg k k (hv128.below ((Below.refl _ _).alloc (Nat.le_refl _) (.cells #[.bool neg, .slice A n c, .int .i64 k, .int .i64 k] 71))) hk hk)
  go_wp2_with fail
  refine hrt.out.mono ?_
  rintro e w2 ⟨rfl, hb2⟩
  have hp2 := pBlk_st _ _ _ _ _ hp hb2
  have hq2 := pBlk_st _ _ _ _ _ (pBlk_made w1 #[.bool neg, .slice A n c, .int .i64 k, .int .i64 k] 71) hb2
  have hv2 := (hv128.below ((Below.refl _ _).alloc (Nat.le_refl _) (.cells #[.bool neg, .slice A n c, .int .i64 k, .int .i64 k] 71))).below hb2
  have r0 := hp2.cell 0 _ rfl
  have s0 := hp2.free 0
  have q0 := hq2.cell 0 _ rfl
  have r1 := hp2.cell 1 _ rfl
  have s1 := hp2.free 1
  have q1 := hq2.cell 1 _ rfl
  have r2 := hp2.cell 2 _ rfl
  have s2 := hp2.free 2
  have q2 := hq2.cell 2 _ rfl
  have r3 := hp2.cell 3 _ rfl
  have s3 := hp2.free 3
  have q3 := hq2.cell 3 _ rfl
  have hB2 : Below w.heap.size w w2 := (hB.alloc hB.size _).trans (hb2.mono (by simp; omega))
  have hno : ∀ (a b c d : Value), (∀ n, a ≠ .int .u64 n) → (∀ n, b ≠ .int .u64 n) → (∀ n, c ≠ .int .u64 n) → (∀ n, d ≠ .int .u64 n) → ∀ x ∈ (#[a, b, c, d] : Array Value).toList, ∀ n, x ≠ .int .u64 n := by
    intro a b c d ha hb hc hd x hx
    simp at hx
    rcases hx with rfl | rfl | rfl | rfl <;> assumption
  have hvf := IsT.apartX (i := 3) (u := .int .i64 k) (IsT.apartX (i := 2) (u := .int .i64 k) (IsT.apartX (i := 1) (u := .slice A n c) (IsT.apartX (i := 0) (u := .bool neg) hv2 hp2 (hno _ _ _ _ (by simp) (by simp) (by simp) (by simp))) (hp2.setX 0 (.bool neg)) (hno _ _ _ _ (by simp) (by simp) (by simp) (by simp))) ((hp2.setX 0 (.bool neg)).setX 1 (.slice A n c)) (hno _ _ _ _ (by simp) (by simp) (by simp) (by simp))) (((hp2.setX 0 (.bool neg)).setX 1 (.slice A n c)).setX 2 (.int .i64 k)) (hno _ _ _ _ (by simp) (by simp) (by simp) (by simp))
  have hpf := (((hp2.setX 0 (.bool neg)).setX 1 (.slice A n c)).setX 2 (.int .i64 k)).setX 3 (.int .i64 k)
  have y0 := hpf.cell 0 _ rfl
  have y1 := hpf.cell 1 _ rfl
  have y2 := hpf.cell 2 _ rfl
  have y3 := hpf.cell 3 _ rfl
  clear hp hrt hp2 hq2 hv hv128 hno hv2 hpf
  go_wp2
  refine bodyPost_ret (v := .tuple #[.agg #[.bool neg, .slice A n c, .int .i64 k, .int .i64 k], .bool true]) (by simp [results, Tryz.results97, go_sem, y0, y1, y2, y3]) rfl ⟨_, rfl, hvf, ?_⟩
  exact (((hB2.setCell (p := ⟨w.heap.size, 0, none⟩) (Nat.le_refl _) _).setCell (p := ⟨w.heap.size, 1, none⟩) (Nat.le_refl _) _).setCell (p := ⟨w.heap.size, 2, none⟩) (Nat.le_refl _) _).setCell (p := ⟨w.heap.size, 3, none⟩) (Nat.le_refl _) _
/-- Where a size is within a word: no wrap. -/
theorem wrap64_idG {x : Int} (h1 : -9223372036854775808 ≤ x) (h2 : x ≤ 9223372036854775807) : wrap64 x = x := by
  unfold wrap64
  omega
theorem blen_bl (N : Nat) : blen N = bl N := rfl
theorem size_pure (N : Nat) (t f : Int) (hN : N < 18446744073709551616 ^ 128) (ht : -5000 ≤ t ∧ t ≤ 5000) (hf : -5000 ≤ f ∧ f ≤ 5000) : wrap64 (wrap64 ((blen N : Int) + t) + (f * 2321928095).tdiv 1000000000) = exS (blen N) t f := by
  have e : (18446744073709551616 : Nat) ^ 128 = 2 ^ 8192 := by decide +kernel
  have hb : blen N ≤ 8192 := by rw [blen_bl]; exact bl_iff.2 (e ▸ hN)
  have hl := lg_tdiv f
  have h1 : lg5 f.toNat ≤ 12000 := by unfold lg5; omega
  have h2 : lg5 (-f).toNat ≤ 12000 := by unfold lg5; omega
  unfold exS
  generalize (f * 2321928095).tdiv 1000000000 = q at hl ⊢
  rw [wrap64_idG (x := (blen N : Int) + t) (by omega) (by omega), wrap64_idG (by omega) (by omega)]
set_option maxRecDepth 100000 in
set_option maxHeartbeats 1000000 in
theorem xsize_any {w : World} {v : Value} {N : Nat} (neg : Bool) (t f : Int) (h : IsT w v 128 N) (ht : -5000 ≤ t ∧ t ≤ 5000) (hf : -5000 ≤ f ∧ f ≤ 5000) :
    Calls Tryz.prog 147 #[.agg #[.bool neg, v, .int .i64 t, .int .i64 f]] w fun e w' => e = .returned (.int .i64 (exS (blen N) t f)) ∧ Below w.heap.size w w' := by
  obtain ⟨A0, c0, z0, rfl, -⟩ := id h
  obtain ⟨n, hn⟩ : ∃ n, z0.length = n := ⟨_, rfl⟩
  rw [hn] at h ⊢
  clear hn
  have hsz := Lib.hid (size_pure N t f h.isN.lt ht hf)
  obtain ⟨hf1, hf2⟩ := hf
  have c0' := fun (u : Later (w.heap.size + 1) (w.alloc (.cells #[.bool neg, .slice A0 n c0, .int .i64 t, .int .i64 f] 71))) => u.cell w.heap.size 1 (.slice A0 n c0) (by omega) (by simp)
  have c1' := fun (u : Later (w.heap.size + 1) (w.alloc (.cells #[.bool neg, .slice A0 n c0, .int .i64 t, .int .i64 f] 71))) => u.cell w.heap.size 2 (.int .i64 t) (by omega) (by simp)
  have c2' := fun (u : Later (w.heap.size + 1) (w.alloc (.cells #[.bool neg, .slice A0 n c0, .int .i64 t, .int .i64 f] 71))) => u.cell w.heap.size 3 (.int .i64 f) (by omega) (by simp)
  have hbt := Lib.hid fun (u : Later (w.heap.size + 1) (w.alloc (.cells #[.bool neg, .slice A0 n c0, .int .i64 t, .int .i64 f] 71))) => bits_b (h.below (((Below.refl _ _).alloc (Nat.le_refl _) _).trans (u.prop.mono (by omega))))
  go_enter Tryz.func147, Tryz.ntmps147
  go_wp2_with fail
  refine wp_region_later (B := w.heap.size + 1) (by kernel_rfl) (by kernel_rfl) (Below.refl _ _) ?_
  repeat (go_big_quiet_step ((go_at_call 45; exact Calls.later_of (by simp) (hbt.out _))))
  refine wpQuiet_nil ?_
  intro w2 hb2
  go_wp2
  rw [hsz.out]
  go_ret
  exact ⟨rfl, ((Below.refl _ _).alloc (Nat.le_refl _) _).trans (hb2.mono (by omega))⟩
/-- The powers of five in at most two steps. -/
theorem five_steps (f : Int) (h : f ≤ 10000) : (f ≤ 0 ∧ f.toNat = 0) ∨ (0 < f ∧ f ≤ 5000 ∧ (min (max f 0) 10000).toNat = f.toNat) ∨ (5000 < f ∧ f - 5000 ≤ 5000 ∧ f.toNat = 5000 + (f - 5000).toNat ∧ (min (max (f - 5000) 0) 10000).toNat = (f - 5000).toNat) := by omega
theorem shl_bnd (k X s m : Nat) (hX : X < 18446744073709551616 ^ k) (hs : s ≤ 64 * m) : X * 2 ^ s < 18446744073709551616 ^ (k + m) := by
  have h1 : X * 2 ^ s < 18446744073709551616 ^ k * 2 ^ s := Nat.mul_lt_mul_of_pos_right hX (Nat.two_pow_pos _)
  have h2 : 2 ^ s ≤ 2 ^ (64 * m) := Nat.pow_le_pow_right (by decide) hs
  have h3 : (2 : Nat) ^ (64 * m) = 18446744073709551616 ^ m := by rw [Nat.pow_mul]
  rw [Nat.pow_add, ← h3]
  exact Nat.lt_of_lt_of_le h1 (Nat.mul_le_mul_left _ h2)
theorem less_words {X k m : Nat} (h : X < 18446744073709551616 ^ k) (hk : k ≤ m) : X < 18446744073709551616 ^ m := Nat.lt_of_lt_of_le h (Nat.pow_le_pow_right (by decide) hk)
set_option maxRecDepth 100000 in
set_option maxHeartbeats 1000000 in
theorem xscaled_any {w : World} {v : Value} {N : Nat} (m : Nat) (hm : 12178 ≤ m) (two five : Int) (h : IsN w v 128 N) (h2 : two ≤ 131072) (h5 : five ≤ 10000) :
    Calls Tryz.prog 182 #[v, .int .i64 two, .int .i64 five] w (TellsT w m (exP N two five)) := by
  obtain ⟨s, hs⟩ : ∃ s : Nat, (min (max (max two 0) 0) 131072).toNat = s := ⟨_, rfl⟩
  have hs2 : two.toNat = s := by omega
  have hsl : s ≤ 131072 := by omega
  have hP : exP N two five = N * 5 ^ five.toNat * 2 ^ s := by unfold exP; rw [hs2]
  rw [hP]
  have hmn : min five 20000 = five := by omega
  rcases five_steps five h5 with ⟨f0, f1⟩ | ⟨f0, f1, f2⟩ | ⟨f0, f1, f2, f3⟩
  · rw [f1, Nat.pow_zero, Nat.mul_one]
    have hsh := Lib.hid fun (w' : World) (h' : IsN w' v 128 N) => shl_t (max two 0) m (N * 2 ^ s) h' (by decide) (by rw [hs]) (less_words (shl_bnd 128 N s 2048 h'.lt (by omega)) (by omega))
    clear hP hs2 f1
    go_enter Tryz.func182, Tryz.ntmps182
    go_wp2
    refine wp_loop_rounds 1 ?_
    rw [rounds_succ]
    go_wp2_with fail
    refine (hsh.out _ h).mono ?_
    rintro e w1 ⟨v1, rfl, hv1, hb1⟩
    go_wp2
    go_ret
    exact ⟨_, rfl, hv1, hb1⟩
  · have hpw := Lib.hid fun w' => pow_t w' 5 (by decide) five five.toNat f2
    have hm5 : min five 5000 = five := by omega
    obtain ⟨F, hF⟩ : ∃ F, five.toNat = F := ⟨_, rfl⟩
    rw [hF] at hpw ⊢
    have hFl : F ≤ 5000 := by omega
    clear hP hs2 hF f2
    go_enter Tryz.func182, Tryz.ntmps182
    go_wp2
    refine wp_loop_rounds 2 ?_
    rw [rounds_succ]
    go_wp2_with fail
    refine (hpw.out _).mono ?_
    rintro e w1 ⟨v1, rfl, hv1, hb1⟩
    go_wp2_with fail
    refine (mul_t (h.below hb1) (IsT.isN hv1) (by decide) (by omega)).mono ?_
    rintro e w2 ⟨v2, rfl, hv2, hb2⟩
    have hn2 : IsN w2 v2 (128 + (F + 1)) (N * 5 ^ F) := IsT.isN hv2
    go_wp2_with fail
    rw [rounds_succ]
    go_wp2_with fail
    refine (shl_t (max two 0) m (N * 5 ^ F * 2 ^ s) hn2 (by omega) (by rw [hs]) (less_words (shl_bnd _ _ s 2048 hn2.lt (by omega)) (by omega))).mono ?_
    rintro e w3 ⟨v3, rfl, hv3, hb3⟩
    go_wp2
    go_ret
    exact ⟨_, rfl, hv3, (hb1.trans (hb2.mono hb1.size)).trans (hb3.mono (Nat.le_trans hb1.size hb2.size))⟩
  · obtain ⟨p5, hp5⟩ : ∃ p : Nat, p = 5000 := ⟨_, rfl⟩
    have hpw := Lib.hid fun w' => pow_t w' 5 (by decide) 5000 p5 (by rw [hp5]; decide)
    rw [← hp5] at f2
    have hpw2 := Lib.hid fun w' => pow_t w' 5 (by decide) (five - 5000) (five - 5000).toNat f3
    have hm5 : min five 5000 = 5000 := by omega
    have hm6 : min (five - 5000) 5000 = five - 5000 := by omega
    obtain ⟨F, hF⟩ : ∃ F, (five - 5000).toNat = F := ⟨_, rfl⟩
    rw [f2]
    rw [hF] at hpw2 ⊢
    have hFl : F ≤ 5000 := by omega
    rw [Nat.pow_add, ← Nat.mul_assoc]
    clear hP hs2 hF f2 f3
    obtain ⟨G, hG⟩ : ∃ G, 5 ^ p5 = G := ⟨_, rfl⟩
    rw [hG] at hpw ⊢
    clear hG
    go_enter Tryz.func182, Tryz.ntmps182
    go_wp2
    refine wp_loop_rounds 3 ?_
    rw [rounds_succ]
    go_wp2_with fail
    refine (hpw.out _).mono ?_
    rintro e w1 ⟨v1, rfl, hv1, hb1⟩
    go_wp2_with fail
    refine (mul_t (h.below hb1) (IsT.isN hv1) (by decide) (by omega)).mono ?_
    rintro e w2 ⟨v2, rfl, hv2, hb2⟩
    have hn2 : IsN w2 v2 (128 + (p5 + 1)) (N * G) := IsT.isN hv2
    go_wp2_with fail
    rw [rounds_succ]
    go_wp2_with fail
    refine (hpw2.out _).mono ?_
    rintro e w3 ⟨v3, rfl, hv3, hb3⟩
    go_wp2_with fail
    refine (mul_t (hn2.below hb3) (IsT.isN hv3) (by omega) (by omega)).mono ?_
    rintro e w4 ⟨v4, rfl, hv4, hb4⟩
    have hn4 : IsN w4 v4 (128 + (p5 + 1) + (F + 1)) (N * G * 5 ^ F) := IsT.isN hv4
    go_wp2_with fail
    rw [rounds_succ]
    go_wp2_with fail
    refine (shl_t (max two 0) m (N * G * 5 ^ F * 2 ^ s) hn4 (by omega) (by rw [hs]) (less_words (shl_bnd _ _ s 2048 hn4.lt (by omega)) (by omega))).mono ?_
    rintro e w5 ⟨v5, rfl, hv5, hb5⟩
    go_wp2
    go_ret
    have hB2 := hb1.trans (hb2.mono hb1.size)
    have hB4 := (hB2.trans (hb3.mono hB2.size)).trans (hb4.mono (Nat.le_trans hB2.size hb3.size))
    exact ⟨_, rfl, hv5, hB4.trans (hb5.mono hB4.size)⟩
end Go.Proofs.YtncfbleeidjflaaGreatDoor
namespace Go.Proofs.YtncfbleeidjflaaGreatDoor
open Go.RowKit Go.Cal
set_option maxRecDepth 100000 in
set_option maxHeartbeats 1000000 in
theorem vodd_any (m : Nat) (e : Int) (hm : m < 18446744073709551616) (he : -100000 ≤ e ∧ e ≤ 100000) (w : World) (hT : TabD w) :
    Calls Tryz.prog 260 #[.int .u64 m, .int .i64 e] w fun x w' => x = .returned (.tuple #[.int .u64 ((oddP 64 m e).1 : Nat), .int .i64 (oddP 64 m e).2]) ∧ w = w' := by
  by_cases h0 : m = 0
  · have hv : oddP 64 m e = (0, 0) := by unfold oddP; rw [if_pos h0]
    rw [hv]
    subst h0
    go_enter Tryz.func260, Tryz.ntmps260
    go_wp2
    go_ret2
    exact ⟨rfl, rfl⟩
  · have hk := tzN_lt 64 m (by omega) (by omega)
    have hv : oddP 64 m e = (m / 2 ^ tzN 64 m, e + tzN 64 m) := by unfold oddP; rw [if_neg h0]
    have htz := Lib.hid (tz_any m (by omega) hm w hT)
    have h0' : ((m : Int) == 0) = false := by simp; omega
    obtain ⟨k, hk'⟩ : ∃ k, tzN 64 m = k := ⟨_, rfl⟩
    rw [hv]
    rw [hk'] at hk htz ⊢
    clear hv hk'
    go_enter Tryz.func260, Tryz.ntmps260
    go_wp2_with fail
    refine htz.out.mono ?_
    rintro x w1 ⟨rfl, rfl⟩
    go_wp2
    go_ret2
    exact ⟨rfl, rfl⟩
theorem wrap64_id {x : Int} (h1 : -1000000 ≤ x) (h2 : x ≤ 1000000) : wrap64 x = x := by
  unfold wrap64
  omega
theorem fo_wide {id : Int} (h1 : 1 ≤ id) (h2 : id < 15) : (fW id).toNat ≤ 64 ∧ 4 ≤ (fW id).toNat ∧ (fM id).toNat ≤ 52 ∧ (fB id).toNat ≤ 1023 ∧ fW id = ((fW id).toNat : Int) ∧ fM id = ((fM id).toNat : Int) ∧ fB id = ((fB id).toNat : Int) := by
  rcases id_cases h1 h2 with rfl | rfl | rfl | rfl | rfl | rfl | rfl | rfl | rfl | rfl | rfl | rfl | rfl | rfl <;> decide +kernel
/-- May a magnitude of a form with so many bits more be? -/
structure MagOk (id : Int) (more key : Nat) : Prop where
  few : more ≤ 1
  word : key < 18446744073709551616
  one : fK id = 1 → 0 < key ∧ key < 2 ^ ((fW id).toNat + more - 1)
  two : fK id = 2 → key / 2 ^ ((fM id).toNat + more) ≤ 4095
  four : fK id = 4 → key < 10000
theorem below_drewN (w : World) (n : Nat) : Below w.heap.size w (w.drewN n) := ⟨rfl, rfl, rfl, Nat.le_refl _, fun _ _ => rfl⟩
set_option maxRecDepth 100000 in
set_option maxHeartbeats 1000000 in
theorem num_any (id : Int) (h1 : 1 ≤ id) (h2 : id < 15) (more key : Nat) (mo ky : Int) (hmo : mo = more) (hky : ky = key) (hok : MagOk id more key) (w : World) (hW : VaW w) :
    Calls Tryz.prog (numI (fK id)) #[.agg #[.int .i64 (fK id), .int .i64 (fW id), .int .i64 (fM id), .int .i64 (fB id), .int .u64 (fT id), .int .u64 (fI id), .int .u64 (fN id)], .int .i64 mo, .int .u64 ky] w fun e w' => e = .returned (.tuple #[.int .u64 ((magV id more key).1 : Nat), .int .i64 (magV id more key).2]) ∧ Below w.heap.size w w' := by
  subst hmo; subst hky
  obtain ⟨w1, w2, w3, w4, e1, e2, e3⟩ := fo_wide h1 h2
  obtain ⟨k0, k1, k2, k3, k4⟩ := hok
  have hKc : fK id = 1 ∨ fK id = 2 ∨ fK id = 3 ∨ fK id = 4 := by have := fK_bnd id; omega
  rcases hKc with hK | hK | hK | hK
  · have hI : numI (fK id) = 255 := by rw [hK]; rfl
    obtain ⟨n, hn⟩ : ∃ n, (fW id).toNat + more - 1 = n := ⟨_, rfl⟩
    have hk := k2 hK
    rw [hn] at hk
    have hv : magV id more key = oddP 64 (poF (poL n key) (key % 2 ^ poL n key)) (4 * poR n key + poE (poL n key) (key % 2 ^ poL n key) - (poL n key - 2 : Nat)) := by
      unfold magV numQ
      rw [hK, hn]
      rfl
    have hpv := pvalue_any n key (by omega) (by omega) hk.1 hk.2
    rw [← hv] at hpv
    have hw : (n : Int) + 1 = fW id + more := by omega
    rw [hw] at hpv
    generalize magV id more key = p at hpv hv ⊢
    obtain ⟨mv, ev⟩ := p
    replace hpv := Lib.hid hpv
    rw [hI]
    clear hv hw hn hI k2 k3 k4
    have hb0 : -9223372036854775808 ≤ fW id + more ∧ fW id + more ≤ 9223372036854775807 := by omega
    replace hK := Lib.hid hK
    clear e1 e2 e3
    obtain ⟨hb0, hb1⟩ := hb0
    go_enter Tryz.func255, Tryz.ntmps255
    go_wp2_with fail
    refine (hpv.out _ (hW.bru.below ((Below.refl _ _).alloc (Nat.le_refl _) _))).mono ?_
    rintro e u1 ⟨rfl, hb⟩
    go_wp2
    go_ret2
    exact ⟨rfl, ((Below.refl _ _).alloc (Nat.le_refl _) _).trans (hb.mono (by simp))⟩
  · have hI : numI (fK id) = 257 := by rw [hK]; rfl
    have hv : magV id more key = oddP 64 (miM ((fM id).toNat + more) key) ((miE ((fM id).toNat + more) key : Int) - (fB id).toNat - ((fM id).toNat + more : Nat)) := by
      unfold magV numQ
      rw [hK]
      rfl
    have hpv := mvalue_any ((fM id).toNat + more) (fB id).toNat key (by omega) (by omega) k1 (k3 hK)
    rw [← hv, show (((fM id).toNat + more : Nat) : Int) = fM id + more by omega, ← e3] at hpv
    generalize magV id more key = p at hpv hv ⊢
    obtain ⟨mv, ev⟩ := p
    replace hpv := Lib.hid hpv
    rw [hI]
    clear hv hI k2 k3 k4
    have hb0 : -9223372036854775808 ≤ fM id + more ∧ fM id + more ≤ 9223372036854775807 := by omega
    replace hK := Lib.hid hK
    clear e1 e2 e3
    obtain ⟨hb0, hb1⟩ := hb0
    go_enter Tryz.func257, Tryz.ntmps257
    go_wp2_with fail
    refine (hpv.out _ (hW.bru.below ((Below.refl _ _).alloc (Nat.le_refl _) _))).mono ?_
    rintro e u1 ⟨rfl, hb⟩
    go_wp2
    go_ret2
    exact ⟨rfl, ((Below.refl _ _).alloc (Nat.le_refl _) _).trans (hb.mono (by simp))⟩
  · have hI : numI (fK id) = 259 := by rw [hK]; rfl
    have hv : magV id more key = oddP 64 key (-((fM id).toNat + more : Nat)) := by
      unfold magV numQ
      rw [hK]
      rfl
    have hpv := vodd_any key (-((fM id).toNat + more : Nat)) k1 (by omega)
    rw [← hv, show (-(((fM id).toNat + more : Nat) : Int)) = -fM id - more by omega] at hpv
    generalize magV id more key = p at hpv hv ⊢
    obtain ⟨mv, ev⟩ := p
    replace hpv := Lib.hid hpv
    rw [hI]
    clear hv hI k2 k3 k4
    have hb0 : 0 ≤ fM id ∧ fM id ≤ 52 := by omega
    replace hK := Lib.hid hK
    clear e1 e2 e3
    obtain ⟨hb0, hb1⟩ := hb0
    go_enter Tryz.func259, Tryz.ntmps259
    go_wp2_with fail
    refine (hpv.out _ (hW.bru.below ((Below.refl _ _).alloc (Nat.le_refl _) _))).mono ?_
    rintro e u1 ⟨rfl, rfl⟩
    go_wp2
    go_ret2
    exact ⟨rfl, ((Below.refl _ _).alloc (Nat.le_refl _) _)⟩
  · have hI : numI (fK id) = 261 := by rw [hK]; rfl
    have hk := k4 hK
    have hv : magV id more key = (1 + 2 * more, ((key / 2 ^ more : Nat) : Int) - (fB id).toNat - more) := by
      unfold magV numQ
      rw [hK]
      exact oddP_odd 64 (1 + 2 * more) _ (by omega)
    rw [hI, hv]
    clear hv hI k2 k3 k4
    have hb0 : 0 ≤ fB id ∧ fB id ≤ 1023 := by omega
    obtain ⟨hb0, hb1⟩ := hb0
    replace hK := Lib.hid hK
    have hwz := Lib.hid (show wrap64 (wrap64 (wrap64 ((key : Int) / 2 ^ more) - fB id) - (more : Int)) = ((key / 2 ^ more : Nat) : Int) - (fB id).toNat - more by
      have e4 : (key : Int) / 2 ^ more = ((key / 2 ^ more : Nat) : Int) := by push_cast; rfl
      have e5 : key / 2 ^ more ≤ key := Nat.div_le_self _ _
      rw [e4]
      generalize key / 2 ^ more = q at e5 ⊢
      have f1 : 0 ≤ (q : Int) ∧ (q : Int) < 10000 := by omega
      rw [wrap64_id (x := (q : Int)) (by omega) (by omega), wrap64_id (x := (q : Int) - fB id) (by omega) (by omega), wrap64_id (by omega) (by omega)]
      omega)
    clear e1 e2 e3
    go_enter Tryz.func261, Tryz.ntmps261
    go_wp2_with fail
    go_quiet (fail)
    go_wp2
    rw [hwz.out]
    go_ret2
    exact ⟨by push_cast; rfl, ((Below.refl _ _).alloc (Nat.le_refl _) _).trans ((below_drewN _ _).mono (by simp))⟩
end Go.Proofs.YtncfbleeidjflaaGreatDoor
namespace Go.Proofs.YtncfbleeidjflaaGreatDoor
open Go.RowKit Go.Cal
theorem pBlk_keep {g h : Nat} {cs : Array Value} {t : TypeId} {w w' : World} (hp : pBlk g cs t w) (hb : Below h w w') (hg : g < h) : pBlk g cs t w' := by
  unfold pBlk
  rw [hb.block g hg]
  exact hp
def fitM (id : Int) : Int := if fK id = 3 then fT id + 1 else fT id
theorem fitM_cases {id : Int} (h1 : 1 ≤ id) (h2 : id < 15) : ((fK id == 3) = true ∧ 0 ≤ fT id ∧ fT id ≤ 127 ∧ fitM id = fT id + 1) ∨ ((fK id == 3) = false ∧ fitM id = fT id) := by
  rcases id_cases h1 h2 with rfl | rfl | rfl | rfl | rfl | rfl | rfl | rfl | rfl | rfl | rfl | rfl | rfl | rfl <;> decide +kernel
set_option maxRecDepth 100000 in
set_option maxHeartbeats 1000000 in
theorem vfits_yes (id : Int) (h1 : 1 ≤ id) (h2 : id < 15) (key : Int) (hk : key ≤ fitM id) (w : World) (hW : VaW w) :
    Calls Tryz.prog 206 #[.int .i64 id, .int .u64 key] w fun e w' => e = .returned (.tuple #[.agg #[.int .i64 (fK id), .int .i64 (fW id), .int .i64 (fM id), .int .i64 (fB id), .int .u64 (fT id), .int .u64 (fI id), .int .u64 (fN id), .func (.func (numI (fK id))) #[] #[]], .int .i64 0]) ∧ Below w.heap.size w w' := by
  have hfn := Lib.hid (fun w hW => vof_yes id h1 h2 w hW)
  rcases fitM_cases h1 h2 with ⟨h3, hT, hT', hM⟩ | ⟨h3, hM⟩
  all_goals
    rw [hM] at hk
    have hng : ¬ key > fT id + 1 ∨ ¬ key > fT id := by omega
    clear hM hng
    go_enter Tryz.func206, Tryz.ntmps206
    go_wp2_with fail
    refine (hfn.out _ (hW.below ((Below.refl _ _).alloc (Nat.le_refl _) _))).mono ?_
    rintro e w1 ⟨rfl, hb⟩
    have hz := hb.size
    simp at hz
    have hB : Below w.heap.size w w1 := ((Below.refl _ _).alloc (Nat.le_refl _) _).trans (hb.mono (by simp))
    have hp1 := pBlk_st _ _ _ _ _ (pBlk_st _ _ _ _ _ (pBlk_made w #[.int .i64 0, .int .i64 0, .int .i64 0, .int .i64 0, .int .u64 0, .int .u64 0, .int .u64 0, .nilFunc] 190) hb) ((Below.refl _ _).alloc (Nat.le_refl _) (.cells #[.int .i64 0, .int .i64 0, .int .i64 0, .int .i64 0, .int .u64 0, .int .u64 0, .int .u64 0, .nilFunc] 190))
    go_wp2_with (first
      | ((with_reducible show wpList _ _ _ (Oper.mk _ (Op.store 190 _ _) _ _ _ _ :: _) _ _); refine wpList_store_whole _ rfl 190 _ _ rfl w1.heap.size #[.int .i64 (fK id), .int .i64 (fW id), .int .i64 (fM id), .int .i64 (fB id), .int .u64 (fT id), .int .u64 (fI id), .int .u64 (fN id), .func (.func (numI (fK id))) #[] #[]] #[.int .i64 0, .int .i64 0, .int .i64 0, .int .i64 0, .int .u64 0, .int .u64 0, .int .u64 0, .nilFunc] 190 rfl rfl (pBlk_made w1 #[.int .i64 0, .int .i64 0, .int .i64 0, .int .i64 0, .int .u64 0, .int .u64 0, .int .u64 0, .nilFunc] 190) shape_size rfl (by simp [Value.oneCell']) ?_; intro w2 hp2 hb2 hz2; obtain ⟨r0, r1, r2, r3, r4, r5, r6, r7⟩ := cells8 hp2; have hp0 := pBlk_keep hp1 hb2 (by omega))
      | ((with_reducible show wpList _ _ _ (Oper.mk _ (Op.store 190 _ _) _ _ _ _ :: _) _ _); refine wpList_store_whole _ rfl 190 _ _ rfl w.heap.size #[.int .i64 (fK id), .int .i64 (fW id), .int .i64 (fM id), .int .i64 (fB id), .int .u64 (fT id), .int .u64 (fI id), .int .u64 (fN id), .func (.func (numI (fK id))) #[] #[]] #[.int .i64 0, .int .i64 0, .int .i64 0, .int .i64 0, .int .u64 0, .int .u64 0, .int .u64 0, .nilFunc] 190 rfl rfl hp0 shape_size rfl (by simp [Value.oneCell']) ?_; intro w3 hp3 hb3 hz3; obtain ⟨s0, s1, s2, s3, s4, s5, s6, s7⟩ := cells8 hp3))
    have hB3 : Below w.heap.size w w3 := ((hB.alloc hB.size _).trans (hb2.mono hB.size)).trans hb3
    exact bodyPost_ret (v := .tuple #[.agg #[.int .i64 (fK id), .int .i64 (fW id), .int .i64 (fM id), .int .i64 (fB id), .int .u64 (fT id), .int .u64 (fI id), .int .u64 (fN id), .func (.func (numI (fK id))) #[] #[]], .int .i64 0]) (by simp [results, Tryz.results206, go_sem, s0, s1, s2, s3, s4, s5, s6, s7]) rfl ⟨rfl, hB3⟩
theorem numI_cases (k : Int) : numI k = 255 ∨ numI k = 257 ∨ numI k = 259 ∨ numI k = 261 := by
  unfold numI
  split
  · exact .inl rfl
  · split
    · exact .inr (.inl rfl)
    · split
      · exact .inr (.inr (.inl rfl))
      · exact .inr (.inr (.inr rfl))
theorem mag_tab {id : Int} (h1 : 1 ≤ id) (h2 : id < 15) : 0 ≤ fitM id ∧ 2 * (fitM id).toNat + 1 < 18446744073709551616 ∧ (fK id = 1 → 2 * (fitM id).toNat + 1 < 2 ^ ((fW id).toNat + 1 - 1) ∧ (fitM id).toNat < 2 ^ ((fW id).toNat + 0 - 1)) ∧
    (fK id = 2 → (2 * (fitM id).toNat + 1) / 2 ^ ((fM id).toNat + 1) ≤ 4095 ∧ (fitM id).toNat / 2 ^ ((fM id).toNat + 0) ≤ 4095) ∧ (fK id = 4 → 2 * (fitM id).toNat + 1 < 10000) := by
  rcases id_cases h1 h2 with rfl | rfl | rfl | rfl | rfl | rfl | rfl | rfl | rfl | rfl | rfl | rfl | rfl | rfl <;> decide +kernel
theorem mag_half {id : Int} {key : Nat} (h1 : 1 ≤ id) (h2 : id < 15) (hk : (key : Int) ≤ fitM id) : MagOk id 1 (2 * key + 1) := by
  obtain ⟨a, b, c, d, e⟩ := mag_tab h1 h2
  have hk' : key ≤ (fitM id).toNat := by omega
  refine ⟨by decide, by omega, fun h => ⟨by omega, by have := (c h).1; omega⟩, fun h => ?_, fun h => by have := e h; omega⟩
  exact Nat.le_trans (Nat.div_le_div_right (by omega)) (d h).1
set_option maxRecDepth 100000 in
set_option maxHeartbeats 1000000 in
theorem vbetween_any (id : Int) (h1 : 1 ≤ id) (h2 : id < 15) (key : Nat) (hk : (key : Int) ≤ fitM id) (w : World) (hW : VaW w) :
    Calls Tryz.prog 180 #[.int .i64 id, .int .u64 key] w fun e w' => e = .returned (.tuple #[.int .u64 ((magV id 1 (2 * key + 1)).1 : Nat), .int .i64 (magV id 1 (2 * key + 1)).2, .int .i64 0]) ∧ Below w.heap.size w w' := by
  have hft := Lib.hid (fun w hW => vfits_yes id h1 h2 key hk w hW)
  have hok := mag_half h1 h2 hk
  have hlt := hok.word
  have hnm := fun w hW => num_any id h1 h2 1 (2 * key + 1) 1 (2 * key + 1) rfl (by push_cast; rfl) hok w hW
  generalize magV id 1 (2 * key + 1) = p at hnm ⊢
  obtain ⟨mv, ev⟩ := p
  clear hok hk
  rcases numI_cases (fK id) with hI | hI | hI | hI
  all_goals
    rw [hI] at hnm hft
    replace hnm := Lib.hid hnm
    go_enter Tryz.func180, Tryz.ntmps180
    go_wp2_with fail
    refine (hft.out _ hW).mono ?_
    rintro e w1 ⟨rfl, hb⟩
    go_wp2_with (first | ((with_reducible show wpList _ _ _ (Oper.mk _ (Op.store 190 _ _) _ _ _ _ :: _) _ _); refine wpList_store_whole _ rfl 190 _ _ rfl (w1).heap.size _ #[.int .i64 0, .int .i64 0, .int .i64 0, .int .i64 0, .int .u64 0, .int .u64 0, .int .u64 0, .nilFunc] 190 rfl rfl (pBlk_made w1 #[.int .i64 0, .int .i64 0, .int .i64 0, .int .i64 0, .int .u64 0, .int .u64 0, .int .u64 0, .nilFunc] 190) shape_size rfl (by simp [Value.oneCell']) ?_; intro w2 hp2 hb2 hz2; obtain ⟨r0, r1, r2, r3, r4, r5, r6, r7⟩ := cells8 hp2))
    have hB : Below w.heap.size w w2 := (hb.alloc hb.size _).trans (hb2.mono hb.size)
    refine (hnm.out _ (hW.below hB)).mono ?_
    rintro e w3 ⟨rfl, hb3⟩
    go_wp2
    go_ret3
    exact ⟨rfl, hB.trans (hb3.mono hB.size)⟩
end Go.Proofs.YtncfbleeidjflaaGreatDoor
namespace Go.Proofs.YtncfbleeidjflaaGreatDoor
open Go.RowKit Go.Cal
theorem pat_or (key : Int) (n : Nat) (hn : n ≤ 63) (h0 : 0 ≤ key) (h1 : key < 2 ^ n) : bits BinOp.or IntKind.u64 key (2 ^ n) = key + 2 ^ n := by
  obtain ⟨k, rfl⟩ := Int.eq_ofNat_of_zero_le h0
  have e1 : (2 : Int) ^ n = ((2 ^ n : Nat) : Int) := by push_cast; rfl
  rw [e1] at h1 ⊢
  have h3 : 2 ^ n ≤ 2 ^ 63 := Nat.pow_le_pow_right (by decide) hn
  have h2 : k < 2 ^ n := by exact_mod_cast h1
  rw [bits_or_u64_nat _ _ (by omega) (by omega), Nat.or_comm]
  have := Nat.two_pow_add_eq_or_of_lt h2 1
  rw [Nat.mul_one] at this
  rw [← this]
  push_cast
  omega
theorem pat_and (key : Int) (n : Nat) (hn : n ≤ 64) : bits BinOp.and IntKind.u64 (IntKind.u64.wrap (-key)) (2 ^ n - 1) = (-key) % 2 ^ n := by
  obtain ⟨x, hx⟩ : ∃ x : Nat, (-key) % 18446744073709551616 = (x : Int) := ⟨((-key) % 18446744073709551616).toNat, by omega⟩
  have hxl : x < 18446744073709551616 := by omega
  have e1 : (2 : Int) ^ n - 1 = ((2 ^ n - 1 : Nat) : Int) := by
    have := Nat.one_le_two_pow (n := n)
    push_cast [this]; rfl
  have h3 : 2 ^ n ≤ 2 ^ 64 := Nat.pow_le_pow_right (by decide) hn
  have h4 := Nat.two_pow_pos n
  rw [wrap_u64, hx, e1, bits_and_u64_nat _ _ hxl (by omega), Nat.and_two_pow_sub_one_eq_mod]
  push_cast
  rw [← hx]
  have hd : (2 : Int) ^ n ∣ 18446744073709551616 := by
    refine ⟨2 ^ (64 - n), ?_⟩
    rw [← Int.pow_add, show n + (64 - n) = 64 by omega]
    rfl
  exact Int.emod_emod_of_dvd _ hd
set_option maxRecDepth 100000 in
set_option maxHeartbeats 1000000 in
theorem vpat_any (id : Int) (neg : Bool) (key : Int) (he : mostE id neg = 0) (h0 : 0 ≤ key) (hk : key ≤ mostV id neg) (w : World) (hW : VaW w) :
    Calls Tryz.prog 95 #[.int .i64 id, .bool neg, .int .u64 key] w fun e w' => e = .returned (.tuple #[.int .u64 (patV id neg key), .int .i64 0]) ∧ Below w.heap.size w w' := by
  obtain ⟨h1, h2, h4⟩ := mostE_zero he
  have hm := fun w hW => vmost_any id neg w hW
  have hR : mostR id neg = mostV id neg := by unfold mostR; rw [if_pos he]
  have hbn := mostV_bnd id neg
  rw [he, hR] at hm
  replace hm := Lib.hid hm
  have hfn := Lib.hid (fun w hW => vof_yes id h1 h2 w hW)
  obtain ⟨w1, w2, w3, w4, e1, e2, e3⟩ := fo_wide h1 h2
  have hkb : key < 18446744073709551616 := by omega
  obtain ⟨mv, hmv⟩ : ∃ mv, mostV id neg = mv := ⟨_, rfl⟩
  have hfT : fK id = 2 → mv < 2 ^ ((fW id).toNat - 1) := by
    intro h
    rw [← hmv]
    clear hm hfn hmv hkb hbn hR hk e1 e2 e3 w1 w2 w3 w4
    rcases id_cases h1 h2 with rfl | rfl | rfl | rfl | rfl | rfl | rfl | rfl | rfl | rfl | rfl | rfl | rfl | rfl <;> cases neg <;> first | decide +kernel | (exact absurd h (by decide))
  rw [hmv] at hm hk
  clear hR hbn hmv he
  cases neg with
  | false =>
    have hv : patV id false key = key := by unfold patV; rw [if_pos rfl]
    rw [hv]
    clear hv hfT h4 e1 e2 e3
    go_enter Tryz.func95, Tryz.ntmps95
    go_wp2_with fail
    refine (hm.out _ hW).mono ?_
    rintro e u1 ⟨rfl, hb⟩
    go_wp2_with fail
    refine (hfn.out _ (hW.below hb)).mono ?_
    rintro e u2 ⟨rfl, hb1⟩
    go_wp2_with ((with_reducible show wpList _ _ _ (Oper.mk _ (Op.store 190 _ _) _ _ _ _ :: _) _ _); refine wpList_store_whole _ rfl 190 _ _ rfl (u2).heap.size #[.int .i64 (fK id), .int .i64 (fW id), .int .i64 (fM id), .int .i64 (fB id), .int .u64 (fT id), .int .u64 (fI id), .int .u64 (fN id), .func (.func (numI (fK id))) #[] #[]] #[.int .i64 0, .int .i64 0, .int .i64 0, .int .i64 0, .int .u64 0, .int .u64 0, .int .u64 0, .nilFunc] 190 rfl rfl (pBlk_made u2 #[.int .i64 0, .int .i64 0, .int .i64 0, .int .i64 0, .int .u64 0, .int .u64 0, .int .u64 0, .nilFunc] 190) shape_size rfl (by simp [Value.oneCell']) ?_; intro w2 hp2 hb2 hz2; obtain ⟨r0, r1, r2, r3, r4, r5, r6, r7⟩ := cells8 hp2)
    go_ret2
    exact ⟨rfl, (((hb.trans (hb1.mono hb.size)).alloc (Nat.le_trans hb.size hb1.size) _).trans (hb2.mono (Nat.le_trans hb.size hb1.size)))⟩
  | true =>
    by_cases hK : fK id = 2
    · have hv : patV id true key = key + 2 ^ ((fW id).toNat - 1) := by unfold patV; rw [if_neg (by decide), if_pos hK]
      have hor := Lib.hid (pat_or key ((fW id).toNat - 1) (by omega) h0 (by have := hfT hK; omega))
      have hsg := Lib.hid (fun w => fo_sign (fK id) (fW id) (fM id) (fB id) (fT id) (fI id) (fN id) w (by omega) (by omega) (by omega))
      have hK' : (fK id == 2) = true := by simp [hK]
      rw [hv]
      replace hK := Lib.hid hK
      clear hv hfT h4 e1 e2 e3
      go_enter Tryz.func95, Tryz.ntmps95
      go_wp2_with fail
      refine (hm.out _ hW).mono ?_
      rintro e u1 ⟨rfl, hb⟩
      go_wp2_with fail
      refine (hfn.out _ (hW.below hb)).mono ?_
      rintro e u2 ⟨rfl, hb1⟩
      go_wp2_with (first | ((with_reducible show wpList _ _ _ (Oper.mk _ (Op.store 190 _ _) _ _ _ _ :: _) _ _); refine wpList_store_whole _ rfl 190 _ _ rfl (u2).heap.size _ #[.int .i64 0, .int .i64 0, .int .i64 0, .int .i64 0, .int .u64 0, .int .u64 0, .int .u64 0, .nilFunc] 190 rfl rfl (pBlk_made u2 #[.int .i64 0, .int .i64 0, .int .i64 0, .int .i64 0, .int .u64 0, .int .u64 0, .int .u64 0, .nilFunc] 190) shape_size rfl (by simp [Value.oneCell']) ?_; intro w2 hp2 hb2 hz2; obtain ⟨r0, r1, r2, r3, r4, r5, r6, r7⟩ := cells8 hp2))
      refine (hsg.out _).mono ?_
      rintro e u3 ⟨rfl, hb3⟩
      go_wp2
      rw [hor.out]
      go_ret2
      have hs := Nat.le_trans hb.size hb1.size
      exact ⟨rfl, ((((hb.trans (hb1.mono hb.size)).alloc hs _).trans (hb2.mono hs))).trans (hb3.mono (by simp at hz2; omega))⟩
    · have hv : patV id true key = (-key) % 2 ^ (fW id).toNat := by unfold patV; rw [if_neg (by decide), if_neg hK]
      have han := Lib.hid (pat_and key (fW id).toNat w1)
      have hsg := Lib.hid (fun w => fo_mask (fK id) (fW id) (fM id) (fB id) (fT id) (fI id) (fN id) w (by omega) (by omega))
      have hK' : (fK id == 2) = false := by simp [hK]
      rw [hv]
      replace hK := Lib.hid hK
      clear hv hfT h4 e1 e2 e3
      go_enter Tryz.func95, Tryz.ntmps95
      go_wp2_with fail
      refine (hm.out _ hW).mono ?_
      rintro e u1 ⟨rfl, hb⟩
      go_wp2_with fail
      refine (hfn.out _ (hW.below hb)).mono ?_
      rintro e u2 ⟨rfl, hb1⟩
      go_wp2_with (first | ((with_reducible show wpList _ _ _ (Oper.mk _ (Op.store 190 _ _) _ _ _ _ :: _) _ _); refine wpList_store_whole _ rfl 190 _ _ rfl (u2).heap.size _ #[.int .i64 0, .int .i64 0, .int .i64 0, .int .i64 0, .int .u64 0, .int .u64 0, .int .u64 0, .nilFunc] 190 rfl rfl (pBlk_made u2 #[.int .i64 0, .int .i64 0, .int .i64 0, .int .i64 0, .int .u64 0, .int .u64 0, .int .u64 0, .nilFunc] 190) shape_size rfl (by simp [Value.oneCell']) ?_; intro w2 hp2 hb2 hz2; obtain ⟨r0, r1, r2, r3, r4, r5, r6, r7⟩ := cells8 hp2))
      refine (hsg.out _).mono ?_
      rintro e u3 ⟨rfl, hb3⟩
      go_wp2
      rw [han.out]
      go_ret2
      have hs := Nat.le_trans hb.size hb1.size
      exact ⟨rfl, ((((hb.trans (hb1.mono hb.size)).alloc hs _).trans (hb2.mono hs))).trans (hb3.mono (by simp at hz2; omega))⟩
end Go.Proofs.YtncfbleeidjflaaGreatDoor
namespace Go.Proofs.YtncfbleeidjflaaGreatDoor
open Go.RowKit Go.Cal
theorem cell_setRow_other {w : World} {g b o : Nat} {cs : Array Value} (h : b ≠ g) : (w.setRow g cs).cell? ⟨b, o, none⟩ = w.cell? ⟨b, o, none⟩ := by
  unfold World.cell? World.setRow
  simp only [Array.getElem?_modify]
  rw [if_neg (fun e => h e.symm)]
theorem IsT.setRow {w : World} {v : Value} {k N g : Nat} {old cs : Array Value} {t : TypeId} (h : IsT w v k N) (hp : pBlk g old t w) (hy : ∀ x ∈ old.toList, ∀ n, x ≠ .int .u64 n) : IsT (w.setRow g cs) v k N := by
  obtain ⟨A, c, zs, h1, h2, h3⟩ := h
  refine ⟨A, c, zs, h1, ⟨?_, fun b off e j hj => ?_⟩, h3⟩
  · rw [show (w.setRow g cs).heap.size = w.heap.size by simp [World.setRow]]; exact h2.place
  · have hc := h2.cells b off e j hj
    by_cases hb : b = g
    · subst hb
      exfalso
      rw [cell_of_row w b _ _ _ _ hp] at hc
      have hm : Value.int .u64 ((zs.getD j 0 : Nat) : Int) ∈ old.toList := by
        have := Array.mem_of_getElem? hc
        simpa using this
      exact hy _ hm _ rfl
    · rw [cell_setRow_other hb]
      exact hc
theorem wpList_store_keep {P : Program} (w : World) {ops : Array Oper} {rest : List Oper} {o : Oper} {a : Act} {Q : Exit → Act → World → Prop}
    (hg : o.guard = none) (t : TypeId) (p x : Operand) (hop : o.op = Op.store t p x) (g : Nat) (cs old : Array Value) (t' : TypeId)
    (hp : a.eval p = .pointer (some ⟨g, 0, none⟩)) (hx : a.eval x = .agg cs) (hb : pBlk g old t' w)
    (hi : (P.info? t).map (·.size) = some cs.size) (ho : old.size = cs.size) (h1 : cs.all (·.oneCell') = true) (hy : ∀ x ∈ old.toList, ∀ n, x ≠ .int .u64 n)
    (hK : ∀ w' : World, pBlk g cs t' w' → Below g w w' → (∀ v k N, IsT w v k N → IsT w' v k N) → wpList P ops Q rest (a.put o.dst undef) w') :
    wpList P ops Q (o :: rest) a w :=
  wpList_plain hg fun _ hK' => wp_store_row t p x hop g cs hp hx t' old hb hi ho h1
    (hK' _ _ (hK (w.setRow g cs) (setRow_heap w g old cs t' _ hb) (below_setRow (Below.refl _ _) (Nat.le_refl _) cs) (fun _ _ _ h => h.setRow hb hy)))
end Go.Proofs.YtncfbleeidjflaaGreatDoor
