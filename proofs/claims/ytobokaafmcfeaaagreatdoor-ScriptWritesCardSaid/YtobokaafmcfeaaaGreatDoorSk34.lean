/- The quire: a number, loaded. Conditions: powers within some thousands. -/
import Derived.Test.YtobokaafmcfeaaaGreatDoorSk31
import Derived.Test.YtobokaafmcfeaaaGreatDoorSk33
import Derived.Test.YtobokaafmcfeaaaGreatDoorSk28
import Derived.Deep.RegionHeld3
namespace Go.Proofs.YtobokaafmcfeaaaGreatDoor
open Go.RowKit Go.Cal
set_option maxRecDepth 100000 in
set_option maxHeartbeats 2000000 in
theorem red_zero {w : World} {A : Option Addr} {n c : Nat} (neg : Bool) (t f : Int) (h : IsT w (.slice A n c) 128 0) :
    Calls Tryz.prog 185 #[.agg #[.bool neg, .slice A n c, .int .i64 t, .int .i64 f]] w fun e w' => e = .returned (.agg #[.bool neg, .slice none 0 0, .int .i64 0, .int .i64 0]) ∧ Below w.heap.size w w' := by
  have hb0 : Below w.heap.size w ((w.alloc (.cells #[.bool neg, .slice A n c, .int .i64 t, .int .i64 f] 101)).alloc (.cells #[.bool false, .slice none 0 0, .int .i64 0, .int .i64 0] 101)) := ((Below.refl _ _).alloc (Nat.le_refl _) _).alloc (by simp) _
  have hL := (((((LiveP.start w).go ((Below.refl w.heap.size w).alloc (Nat.le_refl _) (.cells #[.bool neg, .slice A n c, .int .i64 t, .int .i64 f] 101))).put (pBlk_st _ _ _) (pBlk_made w #[.bool neg, .slice A n c, .int .i64 t, .int .i64 f] 101)).go ((Below.refl _ _).alloc (Nat.le_refl _) (.cells #[.bool false, .slice none 0 0, .int .i64 0, .int .i64 0] 101))).put (pBlk_st _ _ _) (pBlk_madeR (w.alloc (.cells #[.bool neg, .slice A n c, .int .i64 t, .int .i64 f] 101)) #[.bool false, .slice none 0 0, .int .i64 0, .int .i64 0] 101 (w.heap.size + 1) (by simp))).put (pT_st (.slice A n c) 128 0) (h.below hb0)
  obtain ⟨a0, a1, a2, a3⟩ := cells4R (hL.get (P := pBlk w.heap.size #[.bool neg, .slice A n c, .int .i64 t, .int .i64 f] 101) (by repeat (first | exact List.mem_cons_self | apply List.mem_cons_of_mem)))
  go_enter Tryz.func185, Tryz.ntmps185
  go_wp2_with fail
  have hbt := bits_b (hL.get (P := pT (.slice A n c) 128 0) (by repeat (first | exact List.mem_cons_self | apply List.mem_cons_of_mem)))
  rw [show blen 0 = 0 from rfl] at hbt
  refine hbt.mono ?_
  rintro e w1 ⟨rfl, hb⟩
  have hL1 := hL.go hb
  clear hb hbt a0 a1 a2 a3
  obtain ⟨a0, a1, a2, a3⟩ := cells4R (hL1.get (P := pBlk w.heap.size #[.bool neg, .slice A n c, .int .i64 t, .int .i64 f] 101) (by repeat (first | exact List.mem_cons_self | apply List.mem_cons_of_mem)))
  have pr := hL1.get (P := pBlk (w.heap.size + 1) #[.bool false, .slice none 0 0, .int .i64 0, .int .i64 0] 101) (by repeat (first | exact List.mem_cons_self | apply List.mem_cons_of_mem))
  have hg := (hL1.get (P := pBlk w.heap.size #[.bool neg, .slice A n c, .int .i64 t, .int .i64 f] 101) (by repeat (first | exact List.mem_cons_self | apply List.mem_cons_of_mem))).lt
  have hB := hL1.below
  clear hL hL1 hb0
  go_wp2_with (first | ((with_reducible show wpList _ _ _ (Oper.mk _ (Op.store 101 _ _) _ _ _ _ :: _) _ _); refine wpList_store_keep _ rfl 101 _ _ rfl (w.heap.size + 1) #[.bool neg, .slice none 0 0, .int .i64 0, .int .i64 0] #[.bool false, .slice none 0 0, .int .i64 0, .int .i64 0] 101 rfl rfl pr exact_size rfl (by simp [Value.oneCell']) noU ?_; intro w10 hp10 hb10 hk10; obtain ⟨r0, r1, r2, r3⟩ := cells4R hp10))
  exact bodyPost_ret (v := .agg #[.bool neg, .slice none 0 0, .int .i64 0, .int .i64 0]) (by simp [results, Tryz.results185, go_sem, r0, r1, r2, r3]) rfl ⟨rfl, hB.trans (hb10.mono (Nat.le_succ _))⟩
theorem part_few {N Y a b : Nat} (h : N = Y * 2 ^ a * 5 ^ b) (h0 : 0 < N) (hN : N < 2 ^ 8192) : a ≤ 8192 ∧ b ≤ 8192 ∧ 0 < Y ∧ Y ≤ N := by
  have hY : 0 < Y := by
    rcases Nat.eq_zero_or_pos Y with e | e
    · rw [h, e] at h0; simp at h0
    · exact e
  have h1 : 2 ^ a ≤ N := by
    rw [h]
    exact Nat.le_trans (Nat.le_mul_of_pos_left _ hY) (Nat.le_mul_of_pos_right _ (Nat.pow_pos (by decide)))
  have h2 : 2 ^ b ≤ N := by
    rw [h]
    exact Nat.le_trans (Nat.pow_le_pow_left (by decide) b) (Nat.le_mul_of_pos_left _ (Nat.mul_pos hY (Nat.two_pow_pos _)))
  have e1 := (Nat.pow_lt_pow_iff_right (a := 2) (by decide)).1 (Nat.lt_of_le_of_lt h1 hN)
  have e2 := (Nat.pow_lt_pow_iff_right (a := 2) (by decide)).1 (Nat.lt_of_le_of_lt h2 hN)
  refine ⟨by omega, by omega, hY, ?_⟩
  rw [h, Nat.mul_assoc]
  exact Nat.le_mul_of_pos_right _ (Nat.mul_pos (Nat.two_pow_pos _) (Nat.pow_pos (by decide)))
theorem ldN_neg (id : Int) (neg : Bool) (N : Nat) (k : Int) : ldN id neg N k = (ldN id false N k).map (fun M => if neg = true then quT id M else M) := by
  unfold ldN
  simp only
  split
  · simp
  · rfl
theorem word_lt128 : (18446744073709551616 : Nat) ^ 128 = 2 ^ 8192 := by decide +kernel
theorem pow_split (a b c d : Nat) (h : 64 * d = a + b + c) : (2 ^ 64) ^ d = 2 ^ a * 2 ^ b * 2 ^ c := by rw [← Nat.pow_mul, h, Nat.pow_add, Nat.pow_add]
theorem big_fitsG {Y F T a b c : Nat} (hY : Y < 2 ^ a) (hF : 3 * F ≤ b) (hT : T ≤ c) : Y * 5 ^ F * 2 ^ T < 2 ^ a * 2 ^ b * 2 ^ c := by
  have h5 : 5 ^ F ≤ 2 ^ b := by
    calc 5 ^ F ≤ 8 ^ F := Nat.pow_le_pow_left (by decide) F
      _ = 2 ^ (3 * F) := by rw [Nat.pow_mul]
      _ ≤ 2 ^ b := Nat.pow_le_pow_right (by decide) hF
  have hT' : 2 ^ T ≤ 2 ^ c := Nat.pow_le_pow_right (by decide) hT
  exact Nat.mul_lt_mul_of_lt_of_le (Nat.mul_lt_mul_of_lt_of_le hY h5 (Nat.two_pow_pos _)) hT' (Nat.two_pow_pos _)
theorem big_fits {Y F T : Nat} (hY : Y < 18446744073709551616 ^ 128) (hF : F ≤ 1024) (hT : T ≤ 1024) : Y * 5 ^ F * 2 ^ T < 18446744073709551616 ^ 192 := by
  rw [word_lt128] at hY
  have e : (18446744073709551616 : Nat) ^ 192 = (2 ^ 64) ^ 192 := by rw [show (18446744073709551616 : Nat) = 2 ^ 64 by decide]
  rw [e]
  exact Nat.lt_of_lt_of_eq (big_fitsG (a := 8192) (b := 3072) (c := 1024) hY (by omega) hT) (pow_split 8192 3072 1024 192 rfl).symm
theorem pow_x (w : World) (f : Int) (F : Nat) (hf : f = (F : Int)) (hF : F ≤ 1024) : Calls Tryz.prog 74 #[.int .u64 5, .int .i64 f] w fun e w' => ∃ v, e = .returned v ∧ IsT w' v (F + 1) (5 ^ F) ∧ Below w.heap.size w w' := by
  have h := pow_t w 5 (by decide) f F (by omega)
  exact h.mono fun _ _ ⟨v, he, hv, hb⟩ => ⟨v, he, hv, hb⟩
theorem mul_x {w : World} {v1 v2 : Value} {k1 k2 X Y : Nat} (h1 : IsT w v1 k1 X) (h2 : IsT w v2 k2 Y) (b1 : k1 ≤ 1048576) (b2 : k2 ≤ 1048576) : Calls Tryz.prog 73 #[v1, v2] w fun e w' => ∃ v, e = .returned v ∧ IsT w' v (k1 + k2) (X * Y) ∧ Below w.heap.size w w' :=
  (mul_t h1.isN h2.isN b1 b2).mono fun _ _ ⟨v, he, hv, hb⟩ => ⟨v, he, hv, hb⟩
theorem shl_y {w : World} {v : Value} {k k' X N : Nat} (t : Int) (T : Nat) (ht : t = (T : Int)) (hT : T ≤ 1024) (h : IsT w v k X) (b : k ≤ 1048576) (hN : X * 2 ^ T = N) (hk : N < 18446744073709551616 ^ k') :
    Calls Tryz.prog 72 #[v, .int .i64 t] w fun e w' => ∃ A n c, e = .returned (.slice A n c) ∧ IsT w' (.slice A n c) k' N ∧ Fre w.heap.size A n ∧ Below w.heap.size w w' := by
  have h := shl_f t k' N h.isN b (by rw [← hN]; congr 2; omega) hk
  exact h.mono fun _ _ ⟨A, n, c, he, hv, hf, hb⟩ => ⟨A, n, c, he, hv, hf, hb⟩
def WholeP (w : World) (id : Int) (N : Nat) (k : Int) (e : Ending) (w' : World) : Prop :=
  Below w.heap.size w w' ∧ ((∃ A n c M, e = .returned (.tuple #[.slice A n c, .bool true]) ∧ IsT w' (.slice A n c) 16 M ∧ Fre w.heap.size A n ∧ M < 2 ^ (quS id - 1) ∧ ldN id false N k = some M) ∨
    (∃ v, e = .returned (.tuple #[v, .bool false]) ∧ ldN id false N k = none))
section
variable {w W W' : World} {A A1 : Option Addr} {n c n1 c1 N g x : Nat} {id k t f : Int}
theorem keepWh (hS : (x < (W).heap.size ∧ g < (W).heap.size ∧ (W).cell? ⟨x, 1, none⟩ = some (.slice A1 n1 c1) ∧ (W).cell? ⟨x, 2, none⟩ = some (.int .i64 t) ∧ (W).cell? ⟨x, 3, none⟩ = some (.int .i64 f) ∧ (W).cell? ⟨g, 1, none⟩ = some (.int .i64 (fW id)))) (hb : Below W.heap.size W W') : (x < (W').heap.size ∧ g < (W').heap.size ∧ (W').cell? ⟨x, 1, none⟩ = some (.slice A1 n1 c1) ∧ (W').cell? ⟨x, 2, none⟩ = some (.int .i64 t) ∧ (W').cell? ⟨x, 3, none⟩ = some (.int .i64 f) ∧ (W').cell? ⟨g, 1, none⟩ = some (.int .i64 (fW id))) := by
  obtain ⟨h0, h1, h2, h3, h4, h5⟩ := hS
  exact ⟨Nat.lt_of_lt_of_le h0 hb.size, Nat.lt_of_lt_of_le h1 hb.size, (hb.cell (p := ⟨x, 1, none⟩) h0).trans h2, (hb.cell (p := ⟨x, 2, none⟩) h0).trans h3, (hb.cell (p := ⟨x, 3, none⟩) h0).trans h4, (hb.cell (p := ⟨g, 1, none⟩) h1).trans h5⟩
end
section
variable {w : World} {A : Option Addr} {n c N g : Nat} {id k : Int}
set_option maxRecDepth 100000 in
set_option maxHeartbeats 4000000 in
theorem whole_zero (neg : Bool) (h1 : 1 ≤ id) (h4 : id ≤ 4) (h : IsT w (.slice A n c) 128 0) (hg : w.cell? ⟨g, 1, none⟩ = some (.int .i64 (fW id))) :
    Calls Tryz.prog 270 #[.pointer (some ⟨g, 0, none⟩), .agg #[.bool neg, .slice A n c, .int .i64 k, .int .i64 k]] w (WholeP w id 0 k) := by
  have hb0 := (Below.refl w.heap.size w).alloc (Nat.le_refl _) (.cells #[.bool neg, .slice A n c, .int .i64 k, .int .i64 k] 101)
  have px := pBlk_made w #[.bool neg, .slice A n c, .int .i64 k, .int .i64 k] 101
  have hgl := World.block_lt_of_cell? w _ hg
  have hrd := Lib.hid fun (W : World) (hb : Below w.heap.size w W) => red_zero neg k k (h.below hb)
  have hql := Lib.hid fun (W : World) (hb : Below w.heap.size w W) => qlow_q (g := g) h1 h4 ((hb.cell (p := ⟨g, 1, none⟩) hgl).trans hg)
  obtain ⟨s1, s2, s3, s4, s5⟩ := quS_bnd h1 h4
  have hwr : IntKind.i64.wrap (0 - quL id) = 0 - quL id := by rw [IntKind.wrap_i64]; omega
  obtain ⟨L, hL⟩ : ∃ L, quL id = L := ⟨_, rfl⟩
  rw [hL] at hql hwr
  rw [Int.zero_sub] at hwr
  have hend : Hid (ldN id false 0 k = some 0 ∧ 0 < 2 ^ (quS id - 1)) := ⟨ldN_zero, Nat.two_pow_pos _⟩
  clear s3 hL
  go_enter Tryz.func270, Tryz.ntmps270
  go_wp2_with fail
  refine (hrd.out _ hb0).mono ?_
  rintro e w1 ⟨rfl, hb1⟩
  have px1 := pBlk_st _ _ _ _ _ px hb1
  have hB1 := hb0.trans (hb1.mono hb0.size)
  clear hb1
  go_wp2_with (first | ((with_reducible show wpList _ _ _ (Oper.mk _ (Op.store 101 _ _) _ _ _ _ :: _) _ _); refine wpList_store_keep _ rfl 101 _ _ rfl w.heap.size #[.bool neg, .slice none 0 0, .int .i64 0, .int .i64 0] #[.bool neg, .slice A n c, .int .i64 k, .int .i64 k] 101 rfl rfl px1 exact_size rfl (by simp [Value.oneCell']) (noU4 _ _ _ _ _ _) ?_; intro w2 px2 hb2 hk2; obtain ⟨x0, x1, x2, x3⟩ := cells4R px2))
  have hB2 := hB1.trans hb2
  have f2 := px2.free 2
  have hx2 := px2.lt
  have hq2 := Lib.hid (hql.out _ hB2.drew)
  have px3 := px2.setX 2 (.int .i64 (-L))
  have hB3 := hB2.setCell (p := ⟨w.heap.size, 2, none⟩) (Nat.le_refl _) (.int .i64 (-L))
  clear hb2 px1 hB1 px hrd hql
  go_region_law (first | (go_simp; go_at_call 186; refine Calls.mono hq2.out ?_; rintro e w4 ⟨rfl, rfl⟩) | fail)
  all_goals
    have y1 := px3.cell 1 _ rfl
    go_wp2
    go_ret2
    exact ⟨hB3.drew, .inl ⟨_, _, _, 0, rfl, nil_tW _ _, .inl rfl, hend.out.2, hend.out.1⟩⟩
set_option maxRecDepth 100000 in
set_option maxHeartbeats 8000000 in
theorem whole_some (neg : Bool) (h1 : 1 ≤ id) (h4 : id ≤ 4) (h : IsT w (.slice A n c) 128 N) (h0 : 0 < N) (hk : -5000 ≤ k ∧ k ≤ 5000) (hg : w.cell? ⟨g, 1, none⟩ = some (.int .i64 (fW id))) :
    Calls Tryz.prog 270 #[.pointer (some ⟨g, 0, none⟩), .agg #[.bool neg, .slice A n c, .int .i64 k, .int .i64 k]] w (WholeP w id N k) := by
  have hN8 : N < 2 ^ 8192 := by rw [← word_lt128]; exact h.isN.lt
  have hb0 := (Below.refl w.heap.size w).alloc (Nat.le_refl _) (.cells #[.bool neg, .slice A n c, .int .i64 k, .int .i64 k] 101)
  have px := pBlk_made w #[.bool neg, .slice A n c, .int .i64 k, .int .i64 k] 101
  have hgl := World.block_lt_of_cell? w _ hg
  have hrd := Lib.hid fun (W : World) (hb : Below w.heap.size w W) => red_full neg k k (h.below hb) h0 ⟨by omega, by omega⟩ ⟨by omega, by omega⟩
  have hql := Lib.hid fun (W : World) (hb : Below w.heap.size w W) => qlow_q (g := g) h1 h4 ((hb.cell (p := ⟨g, 1, none⟩) hgl).trans hg)
  have hsz := Lib.hid fun (W : World) (hc : W.cell? ⟨g, 1, none⟩ = some (.int .i64 (fW id))) => qsz_q h1 h4 hc
  have hqw := Lib.hid fun (W : World) (v : Value) (k' X : Nat) (hX : X < 2 ^ quS id) (h : IsT W v k' X) => quire_word h1 h4 hX h
  obtain ⟨s1, s2, s3, s4, s5⟩ := quS_bnd h1 h4
  go_enter Tryz.func270, Tryz.ntmps270
  go_wp2_with fail
  refine (hrd.out _ hb0).mono ?_
  rintro e w1 ⟨Y, a, b, A1, n1, c1, rfl, hN, ⟨o2, o5⟩, hv1, hb1⟩
  obtain ⟨a9, b9, y0, -⟩ := part_few hN h0 hN8
  have hld := ldN_red (id := id) (neg := false) (k := k) (a := a) (b := b) y0 o2 o5
  rw [← hN] at hld
  have hn1 : ((n1 : Int) == 0) = false := by
    rcases isT_zero hv1 with ⟨z1, z2⟩ | ⟨z1, z2⟩
    · omega
    · simp; omega
  have px1 := pBlk_st _ _ _ _ _ px hb1
  have hB1 := hb0.trans (hb1.mono hb0.size)
  clear hb1
  have hwr : IntKind.i64.wrap (k + (a : Int) - quL id) = k + (a : Int) - quL id := by rw [IntKind.wrap_i64]; omega
  have hwk : IntKind.i64.wrap (k + (b : Int)) = k + (b : Int) := by rw [IntKind.wrap_i64]; omega
  clear s3
  obtain ⟨L, hL⟩ : ∃ L, quL id = L := ⟨_, rfl⟩
  rw [hL] at hql hwr hld
  obtain ⟨t0, ht0⟩ : ∃ t0, k + (a : Int) = t0 := ⟨_, rfl⟩
  obtain ⟨f, hf⟩ : ∃ f, k + (b : Int) = f := ⟨_, rfl⟩
  rw [ht0] at hwr hld
  rw [hf] at hwk hld
  rw [ht0, hf]
  obtain ⟨t, ht⟩ : ∃ t, t0 - L = t := ⟨_, rfl⟩
  rw [ht] at hwr hld
  replace hld := Lib.hid hld
  clear hN o2 o5 h ht0 hf hL
  go_wp2_with (first | ((with_reducible show wpList _ _ _ (Oper.mk _ (Op.store 101 _ _) _ _ _ _ :: _) _ _); refine wpList_store_keep _ rfl 101 _ _ rfl w.heap.size #[.bool neg, .slice A1 n1 c1, .int .i64 t0, .int .i64 f] #[.bool neg, .slice A n c, .int .i64 k, .int .i64 k] 101 rfl rfl px1 exact_size rfl (by simp [Value.oneCell']) (noU4 _ _ _ _ _ _) ?_; intro w2 px2 hb2 hk2; obtain ⟨x0, x1, x2, x3⟩ := cells4R px2))
  have hB2 := hB1.trans hb2
  have f2 := px2.free 2
  have hx2 := px2.lt
  have hq2 := Lib.hid (hql.out _ hB2.drew)
  have px3 := px2.setX 2 (.int .i64 t)
  have hB3 := hB2.setCell (p := ⟨w.heap.size, 2, none⟩) (Nat.le_refl _) (.int .i64 t)
  have hv3 : IsT (w2.setCell ⟨w.heap.size, 2, none⟩ (.int .i64 t)) (.slice A1 n1 c1) 128 Y := IsT.apartX (hk2 _ _ _ hv1) px2 (noU4 _ _ _ _ _ _)
  clear hb2 px1 hB1 px hrd hql hv1
  go_region_law (first | (go_simp; go_at_call 186; refine Calls.mono hq2.out ?_; rintro e w4 ⟨rfl, rfl⟩; (try rw [ht]); (try rw [hwr])) | fail)
  all_goals
    obtain ⟨W3, hW3⟩ : ∃ W3, (w2.setCell ⟨w.heap.size, 2, none⟩ (.int .i64 t)).drew = W3 := ⟨_, rfl⟩
    have hv4 : IsT W3 (.slice A1 n1 c1) 128 Y := by rw [← hW3]; exact hv3.below (w' := (w2.setCell ⟨w.heap.size, 2, none⟩ (.int .i64 t)).drew) (Below.refl _ _).drew
    have px4 : pBlk w.heap.size #[.bool neg, .slice A1 n1 c1, .int .i64 t, .int .i64 f] 101 W3 := by rw [← hW3]; exact pBlk_st _ _ _ _ _ px3 (Below.refl (w2.setCell ⟨w.heap.size, 2, none⟩ (.int .i64 t)).heap.size (w2.setCell ⟨w.heap.size, 2, none⟩ (.int .i64 t))).drew
    have hB4 : Below w.heap.size w W3 := by rw [← hW3]; exact hB3.drew
    rw [hW3]
    clear hW3 px3 hB3 hv3 px2 x0 x1 x2 x3 hx2 f2 hq2 hk2 hB2
    obtain ⟨x, hx⟩ : ∃ x, w.heap.size = x := ⟨_, rfl⟩
    have hS3 : x < W3.heap.size ∧ g < W3.heap.size ∧ W3.cell? ⟨x, 1, none⟩ = some (.slice A1 n1 c1) ∧ W3.cell? ⟨x, 2, none⟩ = some (.int .i64 t) ∧ W3.cell? ⟨x, 3, none⟩ = some (.int .i64 f) ∧ W3.cell? ⟨g, 1, none⟩ = some (.int .i64 (fW id)) :=
      ⟨by rw [← hx]; exact px4.lt, Nat.lt_of_lt_of_le hgl hB4.size, by rw [← hx]; exact px4.cell 1 _ rfl, by rw [← hx]; exact px4.cell 2 _ rfl, by rw [← hx]; exact px4.cell 3 _ rfl, (hB4.cell (p := ⟨g, 1, none⟩) hgl).trans hg⟩
    replace px4 := Lib.hid px4
    rw [hx]
    have y1 := hS3.2.2.1
    have y2 := hS3.2.2.2.1
    have y3 := hS3.2.2.2.2.1
    have y4 := hS3.2.2.2.2.2
    have y0 := hS3.1
    obtain ⟨S, hS⟩ : ∃ S : Nat, quS id = S := ⟨_, rfl⟩
    rw [hS] at hsz hld s1 s2 hqw
    by_cases q1 : t < 0
    · have d1 : decide (t < 0) = true := decide_eq_true q1
      have hqs := Lib.hid fun m => hsz.out (W3.drewN m) y4
      go_wp2_with fail
      go_quiet ((go_at_call 183; exact Calls.quiet_of_same ((hqs.out _).mono fun _ _ ⟨h, h'⟩ => ⟨h, h'.symm⟩)))
      have hdn : Below W3.heap.size W3 (W3.drewN nq) := ⟨rfl, rfl, rfl, Nat.le_refl _, fun _ _ => rfl⟩
      have hB5 := hB4.trans (hdn.mono hB4.size)
      obtain ⟨W4, hW4⟩ : ∃ W4, W3.drewN nq = W4 := ⟨_, rfl⟩
      rw [hW4] at hdn hB5 ⊢
      clear hW4
      all_goals
        go_wp2
        go_ret2
        exact ⟨hB5, .inr ⟨_, rfl, by rw [hld.out, if_pos (by omega)]⟩⟩
    by_cases q2 : f < 0
    · have d1 : decide (t < 0) = false := decide_eq_false q1
      have d2 : decide (f < 0) = true := decide_eq_true q2
      have hqs := Lib.hid fun m => hsz.out (W3.drewN m) y4
      go_wp2_with fail
      go_quiet ((go_at_call 183; exact Calls.quiet_of_same ((hqs.out _).mono fun _ _ ⟨h, h'⟩ => ⟨h, h'.symm⟩)))
      have hdn : Below W3.heap.size W3 (W3.drewN nq) := ⟨rfl, rfl, rfl, Nat.le_refl _, fun _ _ => rfl⟩
      have hB5 := hB4.trans (hdn.mono hB4.size)
      obtain ⟨W4, hW4⟩ : ∃ W4, W3.drewN nq = W4 := ⟨_, rfl⟩
      rw [hW4] at hdn hB5 ⊢
      clear hW4
      all_goals
        go_wp2
        go_ret2
        exact ⟨hB5, .inr ⟨_, rfl, by rw [hld.out, if_pos (by omega)]⟩⟩
    by_cases q3 : (S : Int) < t
    · have d1 : decide (t < 0) = false := decide_eq_false q1
      have d2 : decide (f < 0) = false := decide_eq_false q2
      have d3 : decide ((S : Int) < t) = true := decide_eq_true q3
      have hqs := Lib.hid fun m => hsz.out (W3.drewN m) y4
      go_wp2_with fail
      go_quiet ((go_at_call 183; exact Calls.quiet_of_same ((hqs.out _).mono fun _ _ ⟨h, h'⟩ => ⟨h, h'.symm⟩)))
      have hdn : Below W3.heap.size W3 (W3.drewN nq) := ⟨rfl, rfl, rfl, Nat.le_refl _, fun _ _ => rfl⟩
      have hB5 := hB4.trans (hdn.mono hB4.size)
      obtain ⟨W4, hW4⟩ : ∃ W4, W3.drewN nq = W4 := ⟨_, rfl⟩
      rw [hW4] at hdn hB5 ⊢
      clear hW4
      all_goals
        go_wp2
        go_ret2
        exact ⟨hB5, .inr ⟨_, rfl, by rw [hld.out, if_pos (by omega)]⟩⟩
    by_cases q4 : (S : Int) < f
    · have d1 : decide (t < 0) = false := decide_eq_false q1
      have d2 : decide (f < 0) = false := decide_eq_false q2
      have d3 : decide ((S : Int) < t) = false := decide_eq_false q3
      have d4 : decide ((S : Int) < f) = true := decide_eq_true q4
      have hqs := Lib.hid fun m => hsz.out (W3.drewN m) y4
      go_wp2_with fail
      go_quiet ((go_at_call 183; exact Calls.quiet_of_same ((hqs.out _).mono fun _ _ ⟨h, h'⟩ => ⟨h, h'.symm⟩)))
      have hdn : Below W3.heap.size W3 (W3.drewN nq) := ⟨rfl, rfl, rfl, Nat.le_refl _, fun _ _ => rfl⟩
      have hB5 := hB4.trans (hdn.mono hB4.size)
      obtain ⟨W4, hW4⟩ : ∃ W4, W3.drewN nq = W4 := ⟨_, rfl⟩
      rw [hW4] at hdn hB5 ⊢
      clear hW4
      all_goals
        go_wp2
        go_ret2
        exact ⟨hB5, .inr ⟨_, rfl, by rw [hld.out, if_pos (by omega)]⟩⟩
    · have d1 : decide (t < 0) = false := decide_eq_false q1
      have d2 : decide (f < 0) = false := decide_eq_false q2
      have d3 : decide ((S : Int) < t) = false := decide_eq_false q3
      have d4 : decide ((S : Int) < f) = false := decide_eq_false q4
      have hqs := Lib.hid fun m => hsz.out (W3.drewN m) y4
      go_wp2_with fail
      go_quiet ((go_at_call 183; exact Calls.quiet_of_same ((hqs.out _).mono fun _ _ ⟨h, h'⟩ => ⟨h, h'.symm⟩)))
      have hdn : Below W3.heap.size W3 (W3.drewN nq) := ⟨rfl, rfl, rfl, Nat.le_refl _, fun _ _ => rfl⟩
      have hB5 := hB4.trans (hdn.mono hB4.size)
      obtain ⟨W4, hW4⟩ : ∃ W4, W3.drewN nq = W4 := ⟨_, rfl⟩
      rw [hW4] at hdn hB5 ⊢
      clear hW4
      all_goals
        obtain ⟨F, hF⟩ : ∃ F : Nat, f = (F : Int) := ⟨f.toNat, by omega⟩
        obtain ⟨T, hT⟩ : ∃ T : Nat, t = (T : Int) := ⟨t.toNat, by omega⟩
        have hF1 : F ≤ 1024 := by omega
        have hT1 : T ≤ 1024 := by omega
        have hF2 : F + 1 ≤ 1048576 := by omega
        have hF3 : 128 + (F + 1) ≤ 1048576 := by omega
        have hfit := Lib.hid (big_fits (hv4.isN.lt) hF1 hT1)
        have hld2 : ldN id false N k = if Y * 5 ^ F * 2 ^ T < 2 ^ (S - 1) then some (Y * 5 ^ F * 2 ^ T) else none := by
          rw [hld.out, if_neg (by omega), show f.toNat = F by omega, show t.toNat = T by omega]
          simp
        replace hld2 := Lib.hid hld2
        have hv6 : IsT W4.drew (.slice A1 n1 c1) 128 Y := hv4.below hdn.drew
        have hS6 := keepWh hS3 hdn.drew
        have hB6 := hB5.drew
        clear hld d1 d2 d3 d4 q1 q2 q3 q4 hB5 hv4 hdn
        go_wp2_with fail
        subst hF
        subst hT
        have hS0 : 0 < S := by omega
        clear s1 s2 s4 s5 hN8 h0 hk hn1 hwk hwr ht a9 b9 hqs hb0 px4 y0 y1 y2 y3 hS3
        replace hS0 := Lib.hid hS0
        first | (go_region_held3 (fun W => (x < (W).heap.size ∧ g < (W).heap.size ∧ (W).cell? ⟨x, 1, none⟩ = some (.slice A1 n1 c1) ∧ (W).cell? ⟨x, 2, none⟩ = some (.int .i64 (T : Nat)) ∧ (W).cell? ⟨x, 3, none⟩ = some (.int .i64 (F : Nat)) ∧ (W).cell? ⟨g, 1, none⟩ = some (.int .i64 (fW id)))) (first | with_reducible exact hS6 | with_reducible assumption | exact keepWh (keepWh (keepWh hS6 hb7) hb8) hb9 | exact keepWh (keepWh hS6 hb7) hb8 | exact keepWh hS6 hb7 | fail)
          (first
            | (go_at_call 74; with_reducible refine Calls.mono (pow_x _ _ F rfl hF1) ?_; rintro e w7 ⟨v7, rfl, hv7, hb7⟩)
            | (go_at_call 73; with_reducible refine Calls.mono (mul_x (hv6.below hb7) hv7 (by decide) hF2) ?_; rintro e w8 ⟨v8, rfl, hv8, hb8⟩)
            | (go_at_call 72; with_reducible refine Calls.mono (shl_y _ T rfl hT1 hv8 hF3 rfl hfit.out) ?_; rintro e w9 ⟨A9, n9, c9, rfl, hv9, hf9, hb9⟩)
            | fail)) | fail
        all_goals
          have hB9 : Below w.heap.size w w9 := chain (chain (chain hB6 hb7) hb8) hb9
          have hf10 : Fre w.heap.size A9 n9 := hf9.more (Nat.le_trans hB6.size (Nat.le_trans hb7.size hb8.size))
          generalize Y * 5 ^ F * 2 ^ T = Z at hv9 hld2 hfit
          have hbt := Lib.hid (bits_b hv9 (by decide))
          have hcg := (hB9.cell (p := ⟨g, 1, none⟩) hgl).trans hg
          have hqs := Lib.hid fun (W : World) (hb : Below w9.heap.size w9 W) => hsz.out W ((hb.cell (p := ⟨g, 1, none⟩) (Nat.lt_of_lt_of_le hgl hB9.size)).trans hcg)
          clear hv7 hv8 hb7 hb8 hb9 hS6 hf9 hB6 hv6 hsz y4
          go_wp2_with fail
          refine hbt.out.mono ?_
          rintro e w10 ⟨rfl, hb10⟩
          go_wp2_with fail
          refine (hqs.out _ hb10).mono ?_
          rintro e w11 ⟨rfl, rfl⟩
          have hB10 := hB9.trans (hb10.mono hB9.size)
          have hv10 := hv9.below hb10
          have hS1 := hS0.out
          by_cases hlt : Z < 2 ^ (S - 1)
          · have hbl : blen Z ≤ S - 1 := bl_iff.2 hlt
            have e1 : decide ((blen Z : Int) < (S : Int)) = true := decide_eq_true (by omega)
            have e2 : (blen Z : Int) < (S : Int) := by omega
            have e3 : blen Z < S := by omega
            have e4 : decide (blen Z < S) = true := decide_eq_true e3
            have hz2 : Z < 2 ^ S := Nat.lt_of_lt_of_le hlt (Nat.pow_le_pow_right (by decide) (by omega))
            have hv11 := hqw.out _ _ _ _ hz2 hv10
            go_wp2
            go_ret2
            exact ⟨hB10, .inl ⟨_, _, _, Z, rfl, hv11, hf10, by rw [hS]; exact hlt, by rw [hld2.out, if_pos hlt]⟩⟩
          · have hbl : ¬ blen Z ≤ S - 1 := fun h => hlt (bl_iff.1 h)
            have e1 : decide ((blen Z : Int) < (S : Int)) = false := decide_eq_false (by omega)
            have e2 : ¬ (blen Z : Int) < (S : Int) := by omega
            have e3 : ¬ blen Z < S := by omega
            have e4 : decide (blen Z < S) = false := decide_eq_false e3
            go_wp2
            go_ret2
            exact ⟨hB10, .inr ⟨_, rfl, by rw [hld2.out, if_neg hlt]⟩⟩
theorem whole_any (neg : Bool) (h1 : 1 ≤ id) (h4 : id ≤ 4) (h : IsT w (.slice A n c) 128 N) (hk : -5000 ≤ k ∧ k ≤ 5000) (hg : w.cell? ⟨g, 1, none⟩ = some (.int .i64 (fW id))) :
    Calls Tryz.prog 270 #[.pointer (some ⟨g, 0, none⟩), .agg #[.bool neg, .slice A n c, .int .i64 k, .int .i64 k]] w (WholeP w id N k) := by
  rcases Nat.eq_zero_or_pos N with h0 | h0
  · subst h0
    exact whole_zero neg h1 h4 h hg
  · exact whole_some neg h1 h4 h h0 hk hg
end
set_option maxRecDepth 100000 in
set_option maxHeartbeats 4000000 in
theorem load_o {F : Nat → Prop} {w : World} (hF : ∀ b, F b → b < w.heap.size) {g X N n c : Nat} {A : Option Addr} {id k : Int} (neg : Bool) (h1 : 1 ≤ id) (h4 : id ≤ 4) (h : QuF F g id X w) (hv : IsT w (.slice A n c) 128 N) (hk : -5000 ≤ k ∧ k ≤ 5000) :
    Calls Tryz.prog 243 #[.pointer (some ⟨g, 0, none⟩), .agg #[.bool neg, .slice A n c, .int .i64 k, .int .i64 k]] w fun e w' => (∃ M, ldN id neg N k = some M ∧ e = .returned (.int .i64 0) ∧ QuF F g id M w' ∧ Mut g w w') ∨ (ldN id neg N k = none ∧ e = .returned (.int .i64 8) ∧ QuF F g id X w' ∧ Mut g w w') := by
  obtain ⟨A0, n0, c0, hp, hb, ho⟩ := h
  have hb0 := (Below.refl w.heap.size w).alloc (Nat.le_refl _) (.cells #[.bool neg, .slice A n c, .int .i64 k, .int .i64 k] 101)
  have px := pBlk_made w #[.bool neg, .slice A n c, .int .i64 k, .int .i64 k] 101
  have hri := Lib.hid (xright_yes neg k k (hv.below hb0) hk hk)
  have hwh := Lib.hid fun (W : World) (hb : Below w.heap.size w W) => whole_any (g := g) (k := k) neg h1 h4 (hv.below hb) hk ((hb.cell (p := ⟨g, 1, none⟩) hp.lt).trans (hp.cell 1 _ rfl))
  have hld := ldN_neg id neg N k
  have hqw := Lib.hid fun (W : World) (v : Value) (k' X : Nat) (hX : X < 2 ^ quS id) (h : IsT W v k' X) => quire_word h1 h4 hX h
  have hle : 2 ^ (quS id - 1) ≤ 2 ^ quS id := Nat.pow_le_pow_right (by decide) (by omega)
  obtain ⟨x0, x1, x2, x3⟩ := cells4R px
  replace hld := Lib.hid hld
  replace hle := Lib.hid hle
  go_enter Tryz.func243, Tryz.ntmps243
  go_wp2_with fail
  refine hri.out.mono ?_
  rintro e w1 ⟨rfl, hb1⟩
  have hB1 := hb0.trans (hb1.mono hb0.size)
  obtain ⟨y0, y1, y2, y3⟩ := cells4R (pBlk_st _ _ _ _ _ px hb1)
  clear x0 x1 x2 x3
  go_wp2_with fail
  refine (hwh.out _ hB1).mono ?_
  rintro e w2 ⟨hb2, hcase⟩
  have hB2 := hB1.trans (hb2.mono hB1.size)
  obtain ⟨x0, x1, x2, x3⟩ := cells4R (pBlk_st _ _ _ _ _ (pBlk_st _ _ _ _ _ px hb1) hb2)
  have hp2 := pBlk_st _ _ _ _ _ hp hB2
  have hbb2 := hb.below hB2
  clear y0 y1 y2 y3 hri hwh px hb1 hb0
  rcases hcase with ⟨A2, n2, c2, M, rfl, hv2, hf2, hM, hl⟩ | ⟨v, rfl, hl⟩
  · have c8 := hp2.cell 8 _ rfl
    have f8 := hp2.free 8
    have g2 := hp2.lt
    cases neg with
    | false =>
      obtain ⟨hq, hm⟩ := stored_o (F := F) hp2 hv2 (hf2.off hF hB1.size)
      go_wp2
      go_ret
      exact .inl ⟨M, by rw [hld.out, hl]; rfl, rfl, hq, (Mut.of hB2).trans hm⟩
    | true =>
      have htu := Lib.hid (turned_f h1 h4 (by decide) (Nat.lt_of_lt_of_le hM hle.out) hv2 (hp2.cell 1 _ rfl))
      have hMl := quT_lt (id := id) (Nat.lt_of_lt_of_le hM hle.out)
      go_wp2_with fail
      refine htu.out.mono ?_
      rintro e w3 ⟨A3, n3, c3, rfl, hv3, hf3, hb3⟩
      have hp3 := pBlk_st _ _ _ _ _ hp2 hb3
      obtain ⟨hq, hm⟩ := stored_o (F := F) hp3 (hqw.out _ _ _ _ hMl hv3) (hf3.off hF hB2.size)
      have d8 := hp3.cell 8 _ rfl
      have e8 := hp3.free 8
      have g3 := hp3.lt
      clear c8 f8 g2
      go_wp2
      go_ret
      exact .inl ⟨quT id M, by rw [hld.out, hl]; rfl, rfl, hq, ((Mut.of hB2).trans (Mut.of hb3)).trans hm⟩
  · go_wp2
    go_ret
    exact .inr ⟨by rw [hld.out, hl]; rfl, rfl, ⟨A0, n0, c0, hp2, hbb2, ho⟩, Mut.of hB2⟩
end Go.Proofs.YtobokaafmcfeaaaGreatDoor
