/- The document's highest place; walked. Conditions: none. -/
/- The document's digits: a number of digits, noughts taken away, all digits; walked. Conditions: none. -/
/- The document's digits: all digits of a number; walked. Conditions: what Decode tells. -/
/- Chapter 13: of and shown, walked. Conditions: the variables that values and words read. -/
import Derived.Test.YtncfbleeidjflaaGreatDoorPz41
import Derived.Test.YtncfbleeidjflaaGreatDoorPz30
import Derived.Test.YtncfbleeidjflaaGreatDoorPz39
import Derived.Test.YtncfbleeidjflaaGreatDoorPz21
import Derived.Test.YtncfbleeidjflaaGreatDoorPz02
import Derived.Test.YtncfbleeidjflaaGreatDoorPz35
import Derived.Test.YtncfbleeidjflaaGreatDoorPz37
namespace Go.Proofs.YtncfbleeidjflaaGreatDoor
open Go.RowKit Go.Cal
theorem lit_t (w : World) (x : Nat) (h0 : 0 < x) (hx : x < 18446744073709551616) : IsT (w.alloc (.cells #[.int .u64 (x : Nat)] 22)) (.slice (some ⟨w.heap.size, 0, none⟩) 1 1) 1 x := by
  obtain ⟨A, c, zs, e, hr, h1, h3, h4, h5⟩ := isN_lit w [x] #[.int .u64 (x : Nat)] 1 x rfl (fun y hy => by simp at hy; omega) rfl (by simp [vl])
  injection e with e1 e2 e3
  subst e1; subst e3
  obtain ⟨y, rfl⟩ : ∃ y, zs = [y] := by
    match zs, e2 with
    | [y], _ => exact ⟨y, rfl⟩
  have hy : y = x := by simpa [vl] using h5
  subst hy
  exact ⟨_, _, [y], rfl, hr, by simp, by unfold maxLen; omega, by simp, ⟨h4, fun h => by simp; omega, by simp [vl]⟩⟩
theorem ten_P9 (N : Nat) (k : Int) : exP N k k = N * 10 ^ k.toNat := by
  unfold exP
  rw [Nat.mul_assoc, ← Nat.mul_pow]
theorem ten_Q9 (k : Int) : exQ k k = 10 ^ (-k).toNat := by
  unfold exQ
  rw [← Nat.mul_pow]
theorem two_ten (j : Nat) : 2 ^ (3 * j) ≤ 10 ^ j := by
  rw [Nat.pow_mul]
  exact Nat.pow_le_pow_left (by decide) j
theorem exC_high {N : Nat} {t k : Int} (hN : N < 2 ^ 64) (ht : t ≤ 2000) (hk : 700 ≤ k) : exC N t 0 1 k k < 0 := by
  obtain ⟨j, rfl⟩ : ∃ j : Nat, k = (j : Int) := ⟨k.toNat, by omega⟩
  obtain ⟨T, hT⟩ : ∃ T, t.toNat = T := ⟨_, rfl⟩
  have h1 : exP N t 0 * exQ (j : Int) (j : Int) < exP 1 (j : Int) (j : Int) * exQ t 0 := by
    rw [ten_P9, ten_Q9, show (-(j : Int)).toNat = 0 by omega, show (j : Int).toNat = j by omega, Nat.pow_zero, Nat.mul_one, Nat.one_mul]
    unfold exP exQ
    rw [hT, show (0 : Int).toNat = 0 from rfl, show (-(0 : Int)).toNat = 0 from rfl, Nat.pow_zero, Nat.mul_one, Nat.one_mul]
    have h2 : N * 2 ^ T < 2 ^ (64 + T) := by
      rw [Nat.pow_add]
      exact Nat.mul_lt_mul_of_pos_right hN (Nat.two_pow_pos _)
    have h3 : 2 ^ (64 + T) ≤ 2 ^ (3 * j) := Nat.pow_le_pow_right (by decide) (by omega)
    have h4 := two_ten j
    have h5 : 10 ^ j * 1 ≤ 10 ^ j * 2 ^ (-t).toNat := Nat.mul_le_mul_left _ (Nat.two_pow_pos _)
    rw [Nat.mul_one] at h5
    exact Nat.lt_of_lt_of_le h2 (Nat.le_trans h3 (Nat.le_trans h4 h5))
  unfold exC
  rw [cmpV_lt (by exact_mod_cast h1)]
  decide
/-- How the search stands: the number, and a power of ten beside it. -/
structure LgS (w : World) (ng : Bool) (A : Option Addr) (n c : Nat) (t : Int) (kd N gs g : Nat) (k : Int) (W : World) : Prop where
  bel : Below w.heap.size w W
  low : w.heap.size < g
  x : pBlk w.heap.size #[.bool ng, .slice A n c, .int .i64 t, .int .i64 0] 71 W
  one : pBlk g #[.bool false, .slice (some ⟨gs, 0, none⟩) 1 1, .int .i64 k, .int .i64 k] 71 W
  num : IsT W (.slice A n c) kd N
  o : IsT W (.slice (some ⟨gs, 0, none⟩) 1 1) 1 1
section
variable {w W W' : World} {ng : Bool} {A : Option Addr} {n c : Nat} {t : Int} {kd N gs g : Nat} {k : Int}
theorem LgS.keep (h : LgS w ng A n c t kd N gs g k W) (hb : Below W.heap.size W W') : LgS w ng A n c t kd N gs g k W' :=
  ⟨h.bel.trans (hb.mono h.bel.size), h.low, pBlk_st _ _ _ _ _ h.x hb, pBlk_st _ _ _ _ _ h.one hb, h.num.below hb, h.o.below hb⟩
theorem noword4 {b : Bool} {A : Option Addr} {n c : Nat} {i j : Int} : ∀ x ∈ (#[.bool b, .slice A n c, .int .i64 i, .int .i64 j] : Array Value).toList, ∀ m, x ≠ .int .u64 m := by
  intro x hx m e
  subst e
  simp at hx
theorem LgS.step (h : LgS w ng A n c t kd N gs g k W) (j : Int) : LgS w ng A n c t kd N gs g j ((W.setCell ⟨g, 2, none⟩ (.int .i64 j)).setCell ⟨g, 3, none⟩ (.int .i64 j)) := by
  have hp : pBlk g #[.bool false, .slice (some ⟨gs, 0, none⟩) 1 1, .int .i64 j, .int .i64 k] 71 (W.setCell ⟨g, 2, none⟩ (.int .i64 j)) := h.one.setX 2 _
  have hl := h.low
  exact ⟨(h.bel.setCell (p := ⟨g, 2, none⟩) (Nat.le_of_lt h.low) _).setCell (p := ⟨g, 3, none⟩) (Nat.le_of_lt h.low) _, h.low, (h.x.othX (by omega) 2 _).othX (by omega) 3 _, hp.setX 3 _,
    (h.num.apartX h.one noword4).apartX hp noword4, (h.o.apartX h.one noword4).apartX hp noword4⟩
theorem LgS.start {W : World} (hb : Below w.heap.size w W) (hx : pBlk w.heap.size #[.bool ng, .slice A n c, .int .i64 t, .int .i64 0] 71 W) (hn : IsT W (.slice A n c) kd N) (k : Int) :
    LgS w ng A n c t kd N W.heap.size (W.heap.size + 1) k ((W.alloc (.cells #[.int .u64 1] 22)).alloc (.cells #[.bool false, .slice (some ⟨W.heap.size, 0, none⟩) 1 1, .int .i64 k, .int .i64 k] 71)) := by
  have h1 := (Below.refl W.heap.size W).alloc (Nat.le_refl _) (.cells #[.int .u64 1] 22)
  have h2 := (Below.refl (W.alloc (.cells #[.int .u64 1] 22)).heap.size (W.alloc (.cells #[.int .u64 1] 22))).alloc (Nat.le_refl _) (.cells #[.bool false, .slice (some ⟨W.heap.size, 0, none⟩) 1 1, .int .i64 k, .int .i64 k] 71)
  have hp := pBlk_made (W.alloc (.cells #[.int .u64 1] 22)) #[.bool false, .slice (some ⟨W.heap.size, 0, none⟩) 1 1, .int .i64 k, .int .i64 k] 71
  rw [show (W.alloc (.cells #[.int .u64 1] 22)).heap.size = W.heap.size + 1 by simp] at hp
  have hxl := hx.lt
  exact ⟨(hb.trans (h1.mono hb.size)).trans (h2.mono (Nat.le_trans hb.size h1.size)), by omega, pBlk_st _ _ _ _ _ (pBlk_st _ _ _ _ _ hx h1) h2, hp, (hn.below h1).below h2, (lit_t W 1 (by decide) (by decide)).below h2⟩
end
set_option maxRecDepth 100000 in
set_option maxHeartbeats 4000000 in
theorem rlog2_any (ng : Bool) {A : Option Addr} {n c kd N : Nat} (t : Int) (w : World) (h : IsT w (.slice A n c) kd N) (hkd : kd ≤ 10000) (hn0 : 0 < n) (h0 : 0 < N) (hN : N < 18446744073709551616) (ht : -2000 ≤ t ∧ t ≤ 2000) :
    Calls Tryz.prog 81 #[.agg #[.bool ng, .slice A n c, .int .i64 t, .int .i64 0]] w fun e w' => ∃ k : Int, e = .returned (.int .i64 k) ∧ -2000 ≤ k ∧ 0 ≤ exC N t 0 1 k k ∧ exC N t 0 1 (k + 1) (k + 1) < 0 ∧ Below w.heap.size w w' := by
  have hcm := Lib.hid fun (W : World) (k : Int) (gs : Nat) (hk : -2100 ≤ k ∧ k ≤ 2100) (h1 : IsT W (.slice A n c) kd N) (h2 : IsT W (.slice (some ⟨gs, 0, none⟩) 1 1) 1 1) => rcmp2_any ng false t 0 k k W h1.isN h2.isN hkd (by decide) (by omega) (by decide) (by omega) (by omega)
  have hlow := Lib.hid fun (k : Int) (h : k ≤ -2000) => exC_low (t := t) (k := k) h0 (by omega) (by omega)
  have hhigh := Lib.hid fun (k : Int) (h : 700 ≤ k) => exC_high (N := N) (t := t) (k := k) hN ht.2 h
  have hb0 := (Below.refl w.heap.size w).alloc (Nat.le_refl _) (.cells #[.bool ng, .slice A n c, .int .i64 t, .int .i64 0] 71)
  have hx0 := pBlk_made w #[.bool ng, .slice A n c, .int .i64 t, .int .i64 0] 71
  have hd0 := h.below ((Below.refl w.heap.size w).alloc (Nat.le_refl _) (.cells #[.bool ng, .slice A n c, .int .i64 t, .int .i64 0] 71))
  have hst := LgS.start hb0 hx0 hd0 0
  obtain ⟨p0, p1, p2, p3⟩ := cells4E hx0
  have pl := hx0.lt
  have hnn : ¬ (n : Int) = 0 := by omega
  rw [show (w.alloc (.cells #[.bool ng, .slice A n c, .int .i64 t, .int .i64 0] 71)).heap.size = w.heap.size + 1 by simp] at hst
  clear h hd0 hx0 h0 hN
  go_enter Tryz.func81, Tryz.ntmps81
  go_wp2_with fail
  go_loopg [3] 2000 (fun gk kv wr => ∃ k : Int, kv = .int .i64 k ∧ -2000 ≤ k ∧ k ≤ 0 ∧ gk = (k + 2000).toNat ∧ LgS w ng A n c t kd N (w.heap.size + 1) (w.heap.size + 2) k wr)
  case atStart => exact ⟨0, rfl, by omega, by omega, by omega, hst⟩
  case round =>
    clear hst p0 p1 p2 p3 pl hb0
    obtain ⟨k, rfl, hk1, hk2, hgk, hS⟩ := hrel
    obtain ⟨p0, p1, p2, p3⟩ := cells4E hS.x
    obtain ⟨s0, s1, s2, s3⟩ := cells4E hS.one
    have pl := hS.x.lt
    have sl := hS.one.lt
    have hc1 := hcm.out wr k _ (by omega) hS.num hS.o
    have hlw := hlow.out k
    by_cases hc : exC N t 0 1 k k < 0
    · have hkn : -2000 < k := Classical.byContradiction fun h9 => by have := hlw (by omega); omega
      generalize exC N t 0 1 k k = cc at *
      go_wp2_with fail
      refine hc1.mono ?_
      rintro e w1 ⟨rfl, hb1⟩
      have hS1 := hS.keep hb1
      have f2 := hS1.one.free 2
      have f3 := hS1.one.free 3
      have sl1 := hS1.one.lt
      obtain ⟨r0, r1, r2, r3⟩ := cells4E hS1.one
      have hS2 := hS1.step (k - 1)
      clear p0 p1 p2 p3 s0 s1 s2 s3 pl sl hS hS1 hlw hc1
      go_wp2
      go_roundg (gk - 1)
      case measure => omega
      case rel => exact ⟨k - 1, by go_num, by omega, by omega, by omega, hS2⟩
    · have hcc : 0 ≤ exC N t 0 1 k k := by omega
      generalize hcg : exC N t 0 1 k k = cc at hc hc1 hlw
      go_wp2_with fail
      refine hc1.mono ?_
      rintro e w1 ⟨rfl, hb1⟩
      have hS1 := hS.keep hb1
      have hst2 := LgS.start hS1.bel hS1.x hS1.num (k + 1)
      obtain ⟨z, hz⟩ : ∃ z, w1.heap.size = z := ⟨_, rfl⟩
      rw [hz] at hst2
      clear p0 p1 p2 p3 s0 s1 s2 s3 pl sl hS hS1 hlw hc1 hb1
      replace hcc := Lib.hid hcc
      replace hcg := Lib.hid hcg
      go_wp2_with fail
      go_loopg [3] (700 - k).toNat (fun gk2 kv wr => ∃ k : Int, kv = .int .i64 k ∧ -2000 ≤ k ∧ k ≤ 700 ∧ gk2 = (700 - k).toNat ∧ 0 ≤ exC N t 0 1 k k ∧ LgS w ng A n c t kd N z (z + 1) (k + 1) wr)
      case atStart => exact ⟨k, rfl, by omega, by omega, by omega, hcc.out, by first | exact hst2 | (rw [hz]; exact hst2)⟩
      case round =>
        clear hst2 hcc hcg
        obtain ⟨k, rfl, hk1, hk2, hgk, hcc, hS⟩ := hrel
        obtain ⟨p0, p1, p2, p3⟩ := cells4E hS.x
        obtain ⟨s0, s1, s2, s3⟩ := cells4E hS.one
        have pl := hS.x.lt
        have sl := hS.one.lt
        have hc1 := hcm.out wr (k + 1) _ (by omega) hS.num hS.o
        have hhg := hhigh.out (k + 1)
        by_cases hc : exC N t 0 1 (k + 1) (k + 1) < 0
        · have hce := hc
          have hcn : ¬ 0 ≤ exC N t 0 1 (k + 1) (k + 1) := by omega
          generalize hcg : exC N t 0 1 (k + 1) (k + 1) = cc at hc hc1 hcn
          replace hce := Lib.hid hce
          replace hcg := Lib.hid hcg
          replace hcc := Lib.hid hcc
          clear hhg hc
          go_wp2_with fail
          refine hc1.mono ?_
          rintro e w2 ⟨rfl, hb2⟩
          have hfin := hS.bel.trans (hb2.mono hS.bel.size)
          go_wp2
          go_ret
          exact ⟨k, rfl, hk1, hcc.out, hce.out, hfin⟩
        · have hkn : k + 1 < 700 := Classical.byContradiction fun h9 => by have := hhg (by omega); omega
          have hcp : 0 ≤ exC N t 0 1 (k + 1) (k + 1) := by omega
          have hce : 0 ≤ exC N t 0 1 (k + 1) (k + 1) := by omega
          generalize hcg : exC N t 0 1 (k + 1) (k + 1) = cc at hc hc1 hcp
          replace hce := Lib.hid hce
          replace hcg := Lib.hid hcg
          replace hcc := Lib.hid hcc
          clear hhg hc
          go_wp2_with fail
          refine hc1.mono ?_
          rintro e w2 ⟨rfl, hb2⟩
          have hS1 := hS.keep hb2
          have f2 := hS1.one.free 2
          have f3 := hS1.one.free 3
          have sl1 := hS1.one.lt
          obtain ⟨r0, r1, r2, r3⟩ := cells4E hS1.one
          have hS2 := hS1.step (k + 1 + 1)
          clear p0 p1 p2 p3 s0 s1 s2 s3 pl sl hS hS1 hc1
          go_wp2
          go_roundg (gk - 1)
          case measure => omega
          case rel => exact ⟨k + 1, by go_num, by omega, by omega, by omega, hce.out, hS2⟩
end Go.Proofs.YtncfbleeidjflaaGreatDoor
namespace Go.Proofs.YtncfbleeidjflaaGreatDoor
open Go.RowKit Go.Cal
theorem rdig_size : (Tryz.prog.info? 51).map (·.size) = some 3 := by kernel_rfl
theorem cells3D {w : World} {g : Nat} {a b c : Value} {t : TypeId} (hp : pBlk g #[a, b, c] t w) : w.cell? ⟨g, 0, none⟩ = some a ∧ w.cell? ⟨g, 1, none⟩ = some b ∧ w.cell? ⟨g, 2, none⟩ = some c :=
  ⟨hp.cell 0 _ rfl, hp.cell 1 _ rfl, hp.cell 2 _ rfl⟩
theorem isT_shape9 {w : World} {v : Value} {k N : Nat} (h : IsT w v k N) : ∃ A n c, v = .slice A n c ∧ (0 < n ↔ 0 < N) := by
  obtain ⟨A, c, zs, h1, h2, h3, h4, h5, h6⟩ := h
  refine ⟨A, zs.length, c, h1, ?_⟩
  constructor
  · intro hl
    rcases Nat.eq_zero_or_pos N with h0 | h0
    · subst h0
      have := h6.length_le (k := 0) (by decide)
      omega
    · exact h0
  · intro hN
    rcases Nat.eq_zero_or_pos zs.length with h0 | h0
    · have hz := List.eq_nil_of_length_eq_zero h0
      have := h6.val
      rw [hz] at this
      simp [vl] at this
      omega
    · exact h0
theorem isT_pos9 {w : World} {A : Option Addr} {n c k N : Nat} (h : IsT w (.slice A n c) k N) : 0 < n ↔ 0 < N := by
  obtain ⟨A', n', c', e, h1⟩ := isT_shape9 h
  injection e with e1 e2 e3
  subst e2
  exact h1
set_option maxRecDepth 100000 in
set_option maxHeartbeats 4000000 in
theorem rten11_any (ng : Bool) {A : Option Addr} {n c kd N : Nat} (k : Int) (w : World) (h : IsT w (.slice A n c) kd N) :
    Calls Tryz.prog 84 #[.bool ng, .slice A n c, .int .i64 k] w fun e w' => e = .returned (.agg #[.bool (ng && decide (0 < N)), .slice A n c, .int .i64 k, .int .i64 k]) ∧ Below w.heap.size w w' := by
  have hr0 := pBlk_made w #[.bool false, .slice none 0 0, .int .i64 0, .int .i64 0] 71
  have hb0 := (Below.refl w.heap.size w).alloc (Nat.le_refl _) (.cells #[.bool false, .slice none 0 0, .int .i64 0, .int .i64 0] 71)
  have hl := isT_pos9 h
  have hcs : (ng = false ∧ (ng && decide (0 < N)) = false) ∨ (ng = true ∧ decide (0 < n) = true ∧ (ng && decide (0 < N)) = true) ∨ (ng = true ∧ decide (0 < n) = false ∧ (ng && decide (0 < N)) = false) := by
    cases ng
    · exact .inl ⟨rfl, rfl⟩
    · by_cases h0 : 0 < N
      · exact .inr (.inl ⟨rfl, by simp; omega, by simp [h0]⟩)
      · exact .inr (.inr ⟨rfl, by simp; omega, by simp [h0]⟩)
  generalize (ng && decide (0 < N)) = s at *
  clear hl h
  rcases hcs with ⟨rfl, rfl⟩ | ⟨rfl, hn, rfl⟩ | ⟨rfl, hn, rfl⟩
  · go_enter Tryz.func84, Tryz.ntmps84
    go_wp2_with (first | ((with_reducible show wpList _ _ _ (Oper.mk _ (Op.store 71 _ _) _ _ _ _ :: _) _ _); refine wpList_store_whole _ rfl 71 _ _ rfl w.heap.size #[.bool false, .slice A n c, .int .i64 k, .int .i64 k] #[.bool false, .slice none 0 0, .int .i64 0, .int .i64 0] 71 rfl rfl hr0 exactr_size rfl (by simp [Value.oneCell']) ?_; intro wz hz hbz hzz; obtain ⟨z0, z1, z2, z3⟩ := cells4E hz))
    exact bodyPost_ret (v := .agg #[.bool false, .slice A n c, .int .i64 k, .int .i64 k]) (by simp [results, Tryz.results84, go_sem, z0, z1, z2, z3]) rfl ⟨rfl, hb0.trans hbz⟩
  · go_enter Tryz.func84, Tryz.ntmps84
    go_wp2_with (first | ((with_reducible show wpList _ _ _ (Oper.mk _ (Op.store 71 _ _) _ _ _ _ :: _) _ _); refine wpList_store_whole _ rfl 71 _ _ rfl w.heap.size #[.bool true, .slice A n c, .int .i64 k, .int .i64 k] #[.bool false, .slice none 0 0, .int .i64 0, .int .i64 0] 71 rfl rfl hr0 exactr_size rfl (by simp [Value.oneCell']) ?_; intro wz hz hbz hzz; obtain ⟨z0, z1, z2, z3⟩ := cells4E hz))
    exact bodyPost_ret (v := .agg #[.bool true, .slice A n c, .int .i64 k, .int .i64 k]) (by simp [results, Tryz.results84, go_sem, z0, z1, z2, z3]) rfl ⟨rfl, hb0.trans hbz⟩
  · go_enter Tryz.func84, Tryz.ntmps84
    go_wp2_with (first | ((with_reducible show wpList _ _ _ (Oper.mk _ (Op.store 71 _ _) _ _ _ _ :: _) _ _); refine wpList_store_whole _ rfl 71 _ _ rfl w.heap.size #[.bool false, .slice A n c, .int .i64 k, .int .i64 k] #[.bool false, .slice none 0 0, .int .i64 0, .int .i64 0] 71 rfl rfl hr0 exactr_size rfl (by simp [Value.oneCell']) ?_; intro wz hz hbz hzz; obtain ⟨z0, z1, z2, z3⟩ := cells4E hz))
    exact bodyPost_ret (v := .agg #[.bool false, .slice A n c, .int .i64 k, .int .i64 k]) (by simp [results, Tryz.results84, go_sem, z0, z1, z2, z3]) rfl ⟨rfl, hb0.trans hbz⟩
theorem noword3 : ∀ x ∈ (#[.bool false, .slice none 0 0, .int .i64 0] : Array Value).toList, ∀ m, x ≠ .int .u64 m := by
  intro x hx m e
  subst e
  simp at hx
theorem strip_stop {f X : Nat} {j : Int} (h : X = 0 ∨ X % 10 ≠ 0) : stripV f X j = (X, j) := by
  cases f with
  | zero => rfl
  | succ f => unfold stripV; rw [if_pos h]
theorem strip_go {f X : Nat} {j : Int} (h0 : X ≠ 0) (h : X % 10 = 0) : stripV (f + 1) X j = stripV f (X / 10) (j + 1) := by
  rw [stripV, if_neg (by omega)]
set_option maxRecDepth 100000 in
set_option maxHeartbeats 4000000 in
theorem rstrip11_any (ng : Bool) {A : Option Addr} {n c K d : Nat} (k : Int) (F : Nat) (w : World) (h : IsT w (.slice A n c) K d) (hK : K ≤ 10000) (hF : F ≤ 5000) (hd : d < 10 ^ F) (hk : -100000 ≤ k ∧ k ≤ 100000) :
    Calls Tryz.prog 79 #[.bool ng, .slice A n c, .int .i64 k] w fun e w' => ∃ A' n' c', e = .returned (.agg #[.bool ng, .slice A' n' c', .int .i64 (stripV F d k).2]) ∧ IsT w' (.slice A' n' c') K (stripV F d k).1 ∧ Below w.heap.size w w' := by
  have hr0 := pBlk_made w #[.bool false, .slice none 0 0, .int .i64 0] 51
  have hb0 := (Below.refl w.heap.size w).alloc (Nat.le_refl _) (.cells #[.bool false, .slice none 0 0, .int .i64 0] 51)
  have h0 := h.below hb0
  obtain ⟨r, hr⟩ : ∃ r, stripV F d k = r := ⟨_, rfl⟩
  rw [hr]
  go_enter Tryz.func79, Tryz.ntmps79
  go_wp2_with fail
  go_loopg [1, 2] F (fun g dv kv wr => ∃ (A1 : Option Addr) (n1 c1 X : Nat) (j : Int), dv = .slice A1 n1 c1 ∧ kv = .int .i64 j ∧ stripV g X j = r ∧ X < 10 ^ g ∧ (g ≤ F ∧ j + (g : Int) = k + (F : Int)) ∧ IsT wr (.slice A1 n1 c1) K X ∧ pBlk w.heap.size #[.bool false, .slice none 0 0, .int .i64 0] 51 wr ∧ Below w.heap.size w wr)
  case atStart => exact ⟨A, n, c, d, k, rfl, rfl, hr, hd, ⟨Nat.le_refl _, rfl⟩, h0, hr0, hb0⟩
  case round =>
    clear hr0 hb0 h0 hr hd h
    obtain ⟨A1, n1, c1, X, j, rfl, rfl, hst, hX, hj, hT, hp, hB⟩ := hrel
    have hpos := isT_pos9 hT
    by_cases hX0 : X = 0
    · have hn : ¬ (0 : Int) < (n1 : Int) := by omega
      have hres : r = (X, j) := by rw [← hst, strip_stop (.inl hX0)]
      replace hres := Lib.hid hres
      clear hst hX hj hpos hX0 hk
      go_wp2_with (first | ((with_reducible show wpList _ _ _ (Oper.mk _ (Op.store 51 _ _) _ _ _ _ :: _) _ _); refine wpList_store_keep _ rfl 51 _ _ rfl w.heap.size #[.bool ng, .slice A1 n1 c1, .int .i64 j] #[.bool false, .slice none 0 0, .int .i64 0] 51 rfl rfl hp rdig_size rfl (by simp [Value.oneCell']) noword3 ?_; intro wz hz hbz hkz; obtain ⟨z0, z1, z2⟩ := cells3D hz))
      exact bodyPost_ret (v := .agg #[.bool ng, .slice A1 n1 c1, .int .i64 j]) (by simp [results, Tryz.results79, go_sem, z0, z1, z2]) rfl ⟨A1, n1, c1, by rw [hres.out], by rw [hres.out]; exact hkz _ _ _ hT, hB.trans hbz⟩
    · have hn : (0 : Int) < (n1 : Int) := by omega
      obtain ⟨f, hf⟩ : ∃ f, gk = f + 1 := by
        refine ⟨gk - 1, ?_⟩
        rcases Nat.eq_zero_or_pos gk with h9 | h9
        · subst h9; simp at hX; omega
        · omega
      have hal := (Below.refl wr.heap.size wr).alloc (Nat.le_refl _) (.cells #[.int .u64 10] 22)
      have hdv := rdiv1_any _ (hT.below hal).isN (lit_t wr 10 (by decide) (by decide)).isN hK (by decide) (by decide)
      by_cases hm : X % 10 = 0
      · rw [hf, strip_go hX0 hm] at hst
        have hX2 : X / 10 < 10 ^ f := by rw [hf, Nat.pow_succ] at hX; omega
        replace hst := Lib.hid hst
        have hjb : -200000 ≤ j ∧ j ≤ 200000 := by omega
        replace hj := Lib.hid hj
        replace hX2 := Lib.hid hX2
        rw [hm] at hdv
        generalize X / 10 = X' at *
        clear hX hpos hX0 hm
        go_wp2_with fail
        refine hdv.mono ?_
        rintro e w2 ⟨qv, rv, rfl, hq, hr2, hb2⟩
        have hB2 := (hB.trans (hal.mono hB.size)).trans (hb2.mono (Nat.le_trans hB.size hal.size))
        have hp2 := pBlk_st _ _ _ _ _ (pBlk_st _ _ _ _ _ hp hal) hb2
        obtain ⟨Aq, nq, cq, rfl, -⟩ := isT_shape9 hq
        obtain ⟨Ar, nr, cr, rfl, hrp⟩ := isT_shape9 hr2
        have hrn : ¬ (0 : Int) < (nr : Int) := by omega
        clear hdv hal hb2 hT hp hB hr2 hrp
        go_wp2
        go_roundg (gk - 1)
        case measure => omega
        case rel => exact ⟨Aq, nq, cq, X', j + 1, rfl, by go_num, by rw [show gk - 1 = f by omega]; exact hst.out, by rw [show gk - 1 = f by omega]; exact hX2.out, by have := hj.out; omega, hq, hp2, hB2⟩
      · have hres : r = (X, j) := by rw [← hst, strip_stop (.inr hm)]
        replace hres := Lib.hid hres
        have hmp : 0 < X % 10 := by omega
        clear hst hX hpos
        generalize X / 10 = X' at *
        generalize X % 10 = X'' at *
        go_wp2_with fail
        refine hdv.mono ?_
        rintro e w2 ⟨qv, rv, rfl, hq, hr2, hb2⟩
        have hB2 := (hB.trans (hal.mono hB.size)).trans (hb2.mono (Nat.le_trans hB.size hal.size))
        have hp2 := pBlk_st _ _ _ _ _ (pBlk_st _ _ _ _ _ hp hal) hb2
        have hT2 := (hT.below hal).below hb2
        obtain ⟨Aq, nq, cq, rfl, -⟩ := isT_shape9 hq
        obtain ⟨Ar, nr, cr, rfl, hrp⟩ := isT_shape9 hr2
        have hrn : (0 : Int) < (nr : Int) := by omega
        clear hdv hal hb2 hT hp hB hr2 hrp hq hm hj hk hX0
        go_wp2_with (first | ((with_reducible show wpList _ _ _ (Oper.mk _ (Op.store 51 _ _) _ _ _ _ :: _) _ _); refine wpList_store_keep _ rfl 51 _ _ rfl w.heap.size #[.bool ng, .slice A1 n1 c1, .int .i64 j] #[.bool false, .slice none 0 0, .int .i64 0] 51 rfl rfl hp2 rdig_size rfl (by simp [Value.oneCell']) noword3 ?_; intro wz hz hbz hkz; obtain ⟨z0, z1, z2⟩ := cells3D hz))
        exact bodyPost_ret (v := .agg #[.bool ng, .slice A1 n1 c1, .int .i64 j]) (by simp [results, Tryz.results79, go_sem, z0, z1, z2]) rfl ⟨A1, n1, c1, by rw [hres.out], by rw [hres.out]; exact hkz _ _ _ hT2, hB2.trans hbz⟩
end Go.Proofs.YtncfbleeidjflaaGreatDoor
namespace Go.Proofs.YtncfbleeidjflaaGreatDoor
open Go.RowKit Go.Cal
theorem isT_more9 {w : World} {v : Value} {k k' N : Nat} (h : IsT w v k N) (hk : k ≤ k') : IsT w v k' N := by
  obtain ⟨A, c, zs, h1, h2, h3, h4, h5, h6⟩ := h
  exact ⟨A, c, zs, h1, h2, h3, h4, Nat.le_trans h5 hk, h6⟩
theorem hasM_eq (m : Nat) (e : Int) : hasM m e = m * 2 ^ e.toNat * 5 ^ (-e).toNat ∧ hasK e = -(((-e).toNat : Nat) : Int) := by
  unfold hasM hasK
  by_cases h : 0 ≤ e
  · rw [if_pos h, if_pos h, show (-e).toNat = 0 by omega, Nat.pow_zero, Nat.mul_one]
    exact ⟨rfl, rfl⟩
  · rw [if_neg h, if_neg h, show e.toNat = 0 by omega, Nat.pow_zero, Nat.mul_one]
    exact ⟨rfl, by omega⟩
theorem part_le {m T U s u : Nat} (hs : s ≤ T) (hu : u ≤ U) : m * 2 ^ s * 5 ^ u ≤ m * 2 ^ T * 5 ^ U :=
  Nat.mul_le_mul (Nat.mul_le_mul_left _ (Nat.pow_le_pow_right (by decide) hs)) (Nat.pow_le_pow_right (by decide) hu)
/-- What Decode tells of a pattern of a number. -/
def Dec2 (id p : Int) (ng : Bool) (mv : Nat) (ev : Int) : Prop := ∀ w, Calls Tryz.prog 25 #[.int .i64 id, .int .u64 p] w fun e w' => e = .returned (.tuple #[.agg #[.int .i64 2, .bool ng, .int .u64 (mv : Nat), .int .i64 ev], .int .i64 0]) ∧ Below w.heap.size w w'
set_option maxRecDepth 100000 in
set_option maxHeartbeats 8000000 in
theorem rfull11_of {id p : Int} {ng : Bool} {mv : Nat} {ev : Int} (hdec : Dec2 id p ng mv ev) (m0 : 0 < mv) (mb : mv < 18446744073709551616) (he : -2000 ≤ ev ∧ ev ≤ 2000) (F : Nat) (hF2 : F ≤ 5000) (hb1 : hasM mv ev + 1 < 10 ^ F) (K : Nat) (hK1 : 1 ≤ K) (hK2 : K ≤ 128) (hb2 : hasM mv ev + 1 < 18446744073709551616 ^ K) (w : World) :
    Calls Tryz.prog 27 #[.int .i64 id, .int .u64 p] w fun e w' => ∃ A n c, e = .returned (.agg #[.bool ng, .slice A n c, .int .i64 (stripV F (hasM mv ev) (hasK ev)).2]) ∧ IsT w' (.slice A n c) K (stripV F (hasM mv ev) (hasK ev)).1 ∧ Below w.heap.size w w' := by
  obtain ⟨e1, e2⟩ := he
  obtain ⟨q1, q2⟩ := hasM_eq mv ev
  obtain ⟨T, hT⟩ : ∃ T, ev.toNat = T := ⟨_, rfl⟩
  obtain ⟨U, hU⟩ : ∃ U, (-ev).toNat = U := ⟨_, rfl⟩
  rw [hT, hU] at q1
  rw [hU] at q2
  rw [q1] at hb1 hb2 ⊢
  rw [q2]
  obtain ⟨V, hV⟩ : ∃ V, mv * 2 ^ T * 5 ^ U = V := ⟨_, rfl⟩
  have hle := fun s u (a : s ≤ T) (b : u ≤ U) => part_le (m := mv) a b
  rw [hV] at hle hb1 hb2 ⊢
  have hfit := fun s u (a : s ≤ T) (b : u ≤ U) => Nat.lt_of_le_of_lt (hle s u a b) (Nat.lt_of_succ_lt hb2)
  have hd9 : V < 10 ^ F := Nat.lt_of_succ_lt hb1
  have hUb : U ≤ 2000 ∧ T ≤ 2000 := by omega
  have hst := Lib.hid fun (W : World) A n c (hv : IsT W (.slice A n c) K V) => rstrip11_any ng (-((U : Nat) : Int)) F W hv (by omega) hF2 hd9 (by omega)
  obtain ⟨r, hr⟩ : ∃ r, stripV F V (-((U : Nat) : Int)) = r := ⟨_, rfl⟩
  rw [hr] at hst ⊢
  have hr0 := pBlk_made w #[.bool false, .slice none 0 0, .int .i64 0] 51
  have hb0 := (Below.refl w.heap.size w).alloc (Nat.le_refl _) (.cells #[.bool false, .slice none 0 0, .int .i64 0] 51)
  have hmu2 := Lib.hid fun (W : World) A n c s (hs : s < T) (hv : IsT W (.slice A n c) K (mv * 2 ^ s)) (v2 : Value) (hv2 : IsT W v2 1 2) => rmul1_any K W hv.isN hv2.isN (by omega) (by decide) (by
    have := hfit (s + 1) 0 hs (Nat.zero_le _)
    rw [Nat.pow_zero, Nat.mul_one, Nat.pow_succ, ← Nat.mul_assoc] at this
    exact this)
  have hmu5 := Lib.hid fun (W : World) A n c s (hs : s < U) (hv : IsT W (.slice A n c) K (mv * 2 ^ T * 5 ^ s)) (v2 : Value) (hv2 : IsT W v2 1 5) => rmul1_any K W hv.isN hv2.isN (by omega) (by decide) (by
    have := hfit T (s + 1) (Nat.le_refl _) hs
    rw [Nat.pow_succ, ← Nat.mul_assoc] at this
    exact this)
  have hdc := Lib.hid hdec
  replace hV := Lib.hid hV
  clear hle hb1 hb2 hd9 hr q1 q2 hfit hdec
  go_enter Tryz.func27, Tryz.ntmps27
  go_wp2_with fail
  refine (hdc.out _).mono ?_
  rintro e w1 ⟨rfl, hbd⟩
  have hB1 := hb0.trans (hbd.mono hb0.size)
  have hr1 := pBlk_st _ _ _ _ _ hr0 hbd
  have ha1 := (Below.refl w1.heap.size w1).alloc (Nat.le_refl _) (.cells #[.int .i64 2, .bool ng, .int .u64 (mv : Nat), .int .i64 ev] 46)
  have ha2 := (Below.refl (w1.alloc (.cells #[.int .i64 2, .bool ng, .int .u64 (mv : Nat), .int .i64 ev] 46)).heap.size (w1.alloc (.cells #[.int .i64 2, .bool ng, .int .u64 (mv : Nat), .int .i64 ev] 46))).alloc (Nat.le_refl _) (.cells #[.int .u64 (mv : Nat)] 22)
  have hv1 := pBlk_made w1 #[.int .i64 2, .bool ng, .int .u64 (mv : Nat), .int .i64 ev] 46
  obtain ⟨p0, p1, p2, p3⟩ := cells4E hv1
  have pl := hv1.lt
  have hv2 := pBlk_st _ _ _ _ _ hv1 ha2
  have hr2 := pBlk_st _ _ _ _ _ (pBlk_st _ _ _ _ _ hr1 ha1) ha2
  have hB2 := (hB1.trans (ha1.mono hB1.size)).trans (ha2.mono (Nat.le_trans hB1.size ha1.size))
  have hd2 := isT_more9 (lit_t (w1.alloc (.cells #[.int .i64 2, .bool ng, .int .u64 (mv : Nat), .int .i64 ev] 46)) mv m0 mb) hK1
  obtain ⟨t0, t1, t2, t3⟩ := cells4E hv2
  have tl := hv2.lt
  obtain ⟨z, hz⟩ : ∃ z, w1.heap.size = z := ⟨_, rfl⟩
  have hzz : (w1.alloc (.cells #[.int .i64 2, .bool ng, .int .u64 (mv : Nat), .int .i64 ev] 46)).heap.size = z + 1 := by rw [← hz]; simp
  rw [hzz] at hd2
  rw [hz] at hv2
  replace hz := Lib.hid hz
  clear hr0 hb0 hbd hdc hv1 hr1 ha1 ha2
  go_wp2_with fail
  have hz' := hz.out
  try rw [hz']
  go_loopg [7, 9] T (fun g dv iv wr => ∃ (A1 : Option Addr) (n1 c1 s : Nat), dv = .slice A1 n1 c1 ∧ iv = .int .i64 (ev - (s : Int)) ∧ s + g = T ∧ IsT wr (.slice A1 n1 c1) K (mv * 2 ^ s) ∧ pBlk z #[.int .i64 2, .bool ng, .int .u64 (mv : Nat), .int .i64 ev] 46 wr ∧ pBlk w.heap.size #[.bool false, .slice none 0 0, .int .i64 0] 51 wr ∧ Below w.heap.size w wr)
  case atStart =>
    refine ⟨_, _, _, 0, rfl, by simp, by omega, ?_, by first | exact hv2 | (rw [← hz']; exact hv2), hr2, hB2⟩
    rw [Nat.pow_zero, Nat.mul_one]
    exact hd2
  case round =>
    clear p0 p1 p2 p3 pl t0 t1 t2 t3 tl hv2 hr2 hB2 hd2 hz hz' hzz hB1
    obtain ⟨A1, n1, c1, s, rfl, rfl, hsg, hd, hv, hr1, hB⟩ := hrel
    by_cases hk0 : gk = 0
    · obtain rfl : s = T := by omega
      have hne : ¬ (0 : Int) < ev - (s : Int) := by omega
      obtain ⟨p0, p1, p2, p3⟩ := cells4E hv
      have pl := hv.lt
      go_wp2_with fail
      go_loopg [7, 8, 10] U (fun g dv kv iv wr => ∃ (A1 : Option Addr) (n1 c1 u : Nat), dv = .slice A1 n1 c1 ∧ kv = .int .i64 (-(u : Int)) ∧ iv = .int .i64 (ev + (u : Int)) ∧ u + g = U ∧ IsT wr (.slice A1 n1 c1) K (mv * 2 ^ s * 5 ^ u) ∧ pBlk z #[.int .i64 2, .bool ng, .int .u64 (mv : Nat), .int .i64 ev] 46 wr ∧ pBlk w.heap.size #[.bool false, .slice none 0 0, .int .i64 0] 51 wr ∧ Below w.heap.size w wr)
      case atStart =>
        refine ⟨A1, n1, c1, 0, rfl, by simp, by simp, by omega, ?_, hv, hr1, hB⟩
        rw [Nat.pow_zero, Nat.mul_one]
        exact hd
      case round =>
        clear p0 p1 p2 p3 pl hv hr1 hB hd
        obtain ⟨A1, n1, c1, u, rfl, rfl, rfl, hsu, hd, hv, hr1, hB⟩ := hrel
        by_cases hk0 : gk = 0
        · obtain rfl : u = U := by omega
          have hne2 : ¬ ev + (u : Int) < 0 := by omega
          rw [hV.out] at hd
          obtain ⟨p0, p1, p2, p3⟩ := cells4E hv
          have pl := hv.lt
          have hs9 := hst.out _ _ _ _ hd
          clear hmu2 hmu5 hst hd
          go_wp2_with fail
          refine hs9.mono ?_
          rintro e w5 ⟨A5, n5, c5, rfl, hd5, hb5⟩
          have hB5 := hB.trans (hb5.mono hB.size)
          have hr5 := pBlk_st _ _ _ _ _ hr1 hb5
          clear hs9 hr1 hB hv p0 p1 p2 p3 pl hb5
          go_wp2_with (first | ((with_reducible show wpList _ _ _ (Oper.mk _ (Op.store 51 _ _) _ _ _ _ :: _) _ _); refine wpList_store_keep _ rfl 51 _ _ rfl w.heap.size #[.bool ng, .slice A5 n5 c5, .int .i64 r.2] #[.bool false, .slice none 0 0, .int .i64 0] 51 rfl rfl hr5 rdig_size rfl (by simp [Value.oneCell']) noword3 ?_; intro wz hz hbz hkz; obtain ⟨z0, z1, z2⟩ := cells3D hz))
          exact bodyPost_ret (v := .agg #[.bool ng, .slice A5 n5 c5, .int .i64 r.2]) (by simp [results, Tryz.results27, go_sem, z0, z1, z2]) rfl ⟨A5, n5, c5, rfl, hkz _ _ _ hd5, hB5.trans hbz⟩
        · have hlt : ev + (u : Int) < 0 := by omega
          have hub : u ≤ 2000 := by omega
          have hal := (Below.refl wr.heap.size wr).alloc (Nat.le_refl _) (.cells #[.int .u64 5] 22)
          have hm := hmu5.out _ _ _ _ u (by omega) (hd.below hal) _ (lit_t wr 5 (by decide) (by decide))
          go_wp2_with fail
          refine hm.mono ?_
          rintro e w5 ⟨v5, rfl, hd5, hb5⟩
          obtain ⟨A5, n5, c5, rfl, -⟩ := isT_shape9 hd5
          have hB5 := (hB.trans (hal.mono hB.size)).trans (hb5.mono (Nat.le_trans hB.size hal.size))
          have hr5 := pBlk_st _ _ _ _ _ (pBlk_st _ _ _ _ _ hr1 hal) hb5
          have hv5 := pBlk_st _ _ _ _ _ (pBlk_st _ _ _ _ _ hv hal) hb5
          clear hm hal hb5 hd hv hr1 hB
          go_wp2
          go_roundg (gk - 1)
          case measure => omega
          case rel =>
            refine ⟨A5, n5, c5, u + 1, rfl, by go_num, by go_num, by omega, ?_, hv5, hr5, hB5⟩
            rw [Nat.pow_succ, ← Nat.mul_assoc]
            exact hd5
    · have hlt : (0 : Int) < ev - (s : Int) := by omega
      have hsb : s ≤ 2000 := by omega
      have hal := (Below.refl wr.heap.size wr).alloc (Nat.le_refl _) (.cells #[.int .u64 2] 22)
      have hm := hmu2.out _ _ _ _ s (by omega) (hd.below hal) _ (lit_t wr 2 (by decide) (by decide))
      go_wp2_with fail
      refine hm.mono ?_
      rintro e w5 ⟨v5, rfl, hd5, hb5⟩
      obtain ⟨A5, n5, c5, rfl, -⟩ := isT_shape9 hd5
      have hB5 := (hB.trans (hal.mono hB.size)).trans (hb5.mono (Nat.le_trans hB.size hal.size))
      have hr5 := pBlk_st _ _ _ _ _ (pBlk_st _ _ _ _ _ hr1 hal) hb5
      have hv5 := pBlk_st _ _ _ _ _ (pBlk_st _ _ _ _ _ hv hal) hb5
      clear hm hal hb5 hd hv hr1 hB
      go_wp2
      go_roundg (gk - 1)
      case measure => omega
      case rel =>
        refine ⟨A5, n5, c5, s + 1, rfl, by go_num, by omega, ?_, hv5, hr5, hB5⟩
        rw [Nat.pow_succ, ← Nat.mul_assoc]
        exact hd5
end Go.Proofs.YtncfbleeidjflaaGreatDoor
namespace Go.Proofs.YtncfbleeidjflaaGreatDoor
open Go.RowKit Go.Cal
set_option maxRecDepth 100000 in
theorem pof_any (id p : Int) (hp0 : 0 ≤ p) (hp1 : p < 18446744073709551616) (w : World) (hW : PrW w) :
    Calls Tryz.prog 22 #[.int .i64 id, .int .u64 p] w fun e w' => e = .returned (.string (strL (priT id p))) ∧ Below w.heap.size w w' := by
  have ht := Lib.hid (print_any id p hp0 hp1 w hW)
  generalize priT id p = S at ht ⊢
  generalize fitsV id p = E at ht
  clear hp0 hp1 hW
  go_enter Tryz.func22, Tryz.ntmps22
  go_wp2_with fail
  refine ht.out.mono ?_
  rintro e w1 ⟨rfl, hb⟩
  go_wp2_with fail
  go_ret
  exact ⟨rfl, hb⟩
theorem pof_lit {id p : Int} {S : List UInt8} (h : priT id p = S) (hp0 : 0 ≤ p) (hp1 : p < 18446744073709551616) (w : World) (hW : PrW w) :
    Calls Tryz.prog 22 #[.int .i64 id, .int .u64 p] w fun e w' => e = .returned (.string (strL S)) ∧ Below w.heap.size w w' := h ▸ pof_any id p hp0 hp1 w hW
theorem s1 : priT 1 128 = [78, 97, 82] := by decide +kernel
theorem s2 : priT 6 252 = [45, 105, 110, 102] := by decide +kernel
theorem s3 : priT 13 2147483648 = [45, 48] := by decide +kernel
theorem s4 : priT 5 255 = [110, 97, 110] := by decide +kernel
theorem s5 : priT 14 4591870180066957722 = [48, 46, 49] := by decide +kernel
theorem s6 : priT 1 65 = [49, 46, 49] := by decide +kernel
theorem s7 : priT 14 1 = [53, 101, 45, 51, 50, 52] := by decide +kernel
theorem s8 : priT 11 255 = [110, 97, 110] := by decide +kernel
theorem s9 : fulT 12 11878 = [48, 46, 48, 57, 57, 57, 55, 53, 53, 56, 53, 57, 51, 55, 53] := by decide +kernel
theorem print_lit {id p E : Int} {S : List UInt8} (h : priT id p = S) (he : fitsV id p = E) (hp0 : 0 ≤ p) (hp1 : p < 18446744073709551616) (w : World) (hW : PrW w) :
    Calls Tryz.prog 9 #[.int .i64 id, .int .u64 p] w fun e w' => e = .returned (.tuple #[.string (strL S), .int .i64 E]) ∧ Below w.heap.size w w' := h ▸ he ▸ print_any id p hp0 hp1 w hW
theorem pfull_lit {id p E : Int} {S : List UInt8} (h : fulT id p = S) (he : fitsV id p = E) (hp0 : 0 ≤ p) (hp1 : p < 18446744073709551616) (w : World) (hW : PrW w) :
    Calls Tryz.prog 11 #[.int .i64 id, .int .u64 p] w fun e w' => e = .returned (.tuple #[.string (strL S), .int .i64 E]) ∧ Below w.heap.size w w' := h ▸ he ▸ pfull_any id p hp0 hp1 w hW
theorem s10 : priT 0 0 = [] := by decide +kernel
theorem s11 : priT 9 16 = [] := by decide +kernel
theorem s12 : fitsV 0 0 = 3 := by decide +kernel
theorem s13 : fitsV 9 16 = 1 := by decide +kernel
theorem s14 : fitsV 12 11878 = 0 := by decide +kernel
set_option maxRecDepth 100000 in
set_option maxHeartbeats 4000000 in
/-- What must be in any case. -/
theorem rshown_any (w : World) (hW : PrW w) : Calls Tryz.prog 8 #[] w fun e w' => e = .returned (.bool true) ∧ Below w.heap.size w w' := by
  have hL : LiveP w w [] := LiveP.start w
  have e0 : ((strL [78, 97, 82]).toList == [78, 97, 82]) = true := by decide +kernel
  have e1 : ((strL [45, 105, 110, 102]).toList == [45, 105, 110, 102]) = true := by decide +kernel
  have e2 : ((strL [45, 48]).toList == [45, 48]) = true := by decide +kernel
  have e3 : ((strL [110, 97, 110]).toList == [110, 97, 110]) = true := by decide +kernel
  have e4 : ((strL [48, 46, 49]).toList == [48, 46, 49]) = true := by decide +kernel
  have e5 : ((strL [49, 46, 49]).toList == [49, 46, 49]) = true := by decide +kernel
  have e6 : ((strL [53, 101, 45, 51, 50, 52]).toList == [53, 101, 45, 51, 50, 52]) = true := by decide +kernel
  have e7 : ((strL [48, 46, 48, 57, 57, 57, 55, 53, 53, 56, 53, 57, 51, 55, 53]).toList == [48, 46, 48, 57, 57, 57, 55, 53, 53, 56, 53, 57, 51, 55, 53]) = true := by decide +kernel
  go_enter Tryz.func8, Tryz.ntmps8
  go_wp2_with fail
  refine (print_lit s10 s12 (by decide) (by decide) _ (hW.below hL.below)).mono ?_
  rintro e w0 ⟨rfl, hb⟩
  replace hL := hL.go hb
  clear hb
  go_wp2_with fail
  refine (print_lit s11 s13 (by decide) (by decide) _ (hW.below hL.below)).mono ?_
  rintro e w1 ⟨rfl, hb⟩
  replace hL := hL.go hb
  clear hb
  go_wp2_with fail
  refine (pfull_lit s9 s14 (by decide) (by decide) _ (hW.below hL.below)).mono ?_
  rintro e w2 ⟨rfl, hb⟩
  replace hL := hL.go hb
  clear hb
  go_wp2_with fail
  refine (pof_lit s1 (by decide) (by decide) _ (hW.below hL.below)).mono ?_
  rintro e v1 ⟨rfl, hb⟩
  replace hL := hL.go hb
  clear hb
  go_wp2_with fail
  refine (pof_lit s2 (by decide) (by decide) _ (hW.below hL.below)).mono ?_
  rintro e v2 ⟨rfl, hb⟩
  replace hL := hL.go hb
  clear hb
  go_wp2_with fail
  refine (pof_lit s3 (by decide) (by decide) _ (hW.below hL.below)).mono ?_
  rintro e v3 ⟨rfl, hb⟩
  replace hL := hL.go hb
  clear hb
  go_wp2_with fail
  refine (pof_lit s4 (by decide) (by decide) _ (hW.below hL.below)).mono ?_
  rintro e v4 ⟨rfl, hb⟩
  replace hL := hL.go hb
  clear hb
  go_wp2_with fail
  refine (pof_lit s5 (by decide) (by decide) _ (hW.below hL.below)).mono ?_
  rintro e v5 ⟨rfl, hb⟩
  replace hL := hL.go hb
  clear hb
  go_wp2_with fail
  refine (pof_lit s6 (by decide) (by decide) _ (hW.below hL.below)).mono ?_
  rintro e v6 ⟨rfl, hb⟩
  replace hL := hL.go hb
  clear hb
  go_wp2_with fail
  refine (pof_lit s7 (by decide) (by decide) _ (hW.below hL.below)).mono ?_
  rintro e v7 ⟨rfl, hb⟩
  replace hL := hL.go hb
  clear hb
  go_wp2_with fail
  refine (pof_lit s8 (by decide) (by decide) _ (hW.below hL.below)).mono ?_
  rintro e v8 ⟨rfl, hb⟩
  replace hL := hL.go hb
  clear hb
  go_wp2
  go_ret
  exact ⟨rfl, hL.below⟩
end Go.Proofs.YtncfbleeidjflaaGreatDoor
