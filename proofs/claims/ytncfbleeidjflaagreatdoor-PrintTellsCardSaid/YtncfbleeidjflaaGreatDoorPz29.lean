/- Exact numbers: Cmp, walked: the order by cross products. Conditions: none. -/
/- Rounding: a size out of a number of one word, the boundaries, walked. Conditions: the variables that values read. -/
import Derived.Test.YtncfbleeidjflaaGreatDoorPz20
import Derived.Deep.RegionHeld3
import Derived.Test.YtncfbleeidjflaaGreatDoorPz21
namespace Go.Proofs.YtncfbleeidjflaaGreatDoor
open Go.RowKit Go.Cal
theorem isT_zero {w : World} {A : Option Addr} {n c k N : Nat} (h : IsT w (.slice A n c) k N) : (n = 0 ∧ N = 0) ∨ (0 < n ∧ 0 < N) := by
  obtain ⟨A', c', zs, e, _, _, _, _, nr⟩ := h
  injection e with e1 e2 e3
  subst e2
  cases zs with
  | nil => exact .inl ⟨rfl, by rw [← nr.val]; rfl⟩
  | cons x r =>
    refine .inr ⟨by simp, ?_⟩
    have := vl_pos (b := 18446744073709551616) nr.top (by simp)
    rw [nr.val] at this
    exact Nat.lt_of_lt_of_le (Nat.pow_pos (by decide)) this
theorem blen_bnd {N : Nat} (h : 0 < N) : N < 2 ^ blen N ∧ 2 ^ blen N ≤ 2 * N := by
  obtain ⟨h1, h2⟩ := bl_pos h
  rw [blen_bl]
  refine ⟨bl_lt N, ?_⟩
  have : 2 ^ bl N = 2 * 2 ^ (bl N - 1) := by rw [← Nat.pow_succ', Nat.succ_eq_add_one, show bl N - 1 + 1 = bl N by omega]
  omega
section
variable {w W W' : World} {n1 n2 : Bool} {A1 A2 : Option Addr} {m1 m2 c1 c2 N1 N2 : Nat} {t1 t2 f1 f2 : Int}
theorem boxX (h : LiveP w W [pT (.slice A2 m2 c2) 128 N2, pT (.slice A1 m1 c1) 128 N1, pBlk (w.heap.size + 1) #[.bool n2, .slice A2 m2 c2, .int .i64 t2, .int .i64 f2] 71, pBlk w.heap.size #[.bool n1, .slice A1 m1 c1, .int .i64 t1, .int .i64 f1] 71]) : LiveP w W [pT (.slice A2 m2 c2) 128 N2, pT (.slice A1 m1 c1) 128 N1, pBlk (w.heap.size + 1) #[.bool n2, .slice A2 m2 c2, .int .i64 t2, .int .i64 f2] 71, pBlk w.heap.size #[.bool n1, .slice A1 m1 c1, .int .i64 t1, .int .i64 f1] 71] ∧ w.heap.size + 1 < (W).heap.size ∧ (W).cell? ⟨w.heap.size, 0, none⟩ = some (.bool n1) ∧ (W).cell? ⟨w.heap.size, 1, none⟩ = some (.slice A1 m1 c1) ∧ (W).cell? ⟨w.heap.size, 2, none⟩ = some (.int .i64 t1) ∧ (W).cell? ⟨w.heap.size, 3, none⟩ = some (.int .i64 f1) ∧ (W).cell? ⟨w.heap.size + 1, 0, none⟩ = some (.bool n2) ∧ (W).cell? ⟨w.heap.size + 1, 1, none⟩ = some (.slice A2 m2 c2) ∧ (W).cell? ⟨w.heap.size + 1, 2, none⟩ = some (.int .i64 t2) ∧ (W).cell? ⟨w.heap.size + 1, 3, none⟩ = some (.int .i64 f2) := by
  have p1 := h.get (P := pBlk w.heap.size #[.bool n1, .slice A1 m1 c1, .int .i64 t1, .int .i64 f1] 71) (by repeat (first | exact List.mem_cons_self | apply List.mem_cons_of_mem))
  have p2 := h.get (P := pBlk (w.heap.size + 1) #[.bool n2, .slice A2 m2 c2, .int .i64 t2, .int .i64 f2] 71) (by repeat (first | exact List.mem_cons_self | apply List.mem_cons_of_mem))
  have e := p2.cell 0 _ rfl
  have hlt : w.heap.size + 1 < W.heap.size := by
    have := p2
    unfold pBlk at this
    exact (Array.getElem?_eq_some_iff.1 this).1
  exact ⟨h, hlt, p1.cell 0 _ rfl, p1.cell 1 _ rfl, p1.cell 2 _ rfl, p1.cell 3 _ rfl, e, p2.cell 1 _ rfl, p2.cell 2 _ rfl, p2.cell 3 _ rfl⟩
theorem keepX (h : LiveP w W [pT (.slice A2 m2 c2) 128 N2, pT (.slice A1 m1 c1) 128 N1, pBlk (w.heap.size + 1) #[.bool n2, .slice A2 m2 c2, .int .i64 t2, .int .i64 f2] 71, pBlk w.heap.size #[.bool n1, .slice A1 m1 c1, .int .i64 t1, .int .i64 f1] 71] ∧ w.heap.size + 1 < (W).heap.size ∧ (W).cell? ⟨w.heap.size, 0, none⟩ = some (.bool n1) ∧ (W).cell? ⟨w.heap.size, 1, none⟩ = some (.slice A1 m1 c1) ∧ (W).cell? ⟨w.heap.size, 2, none⟩ = some (.int .i64 t1) ∧ (W).cell? ⟨w.heap.size, 3, none⟩ = some (.int .i64 f1) ∧ (W).cell? ⟨w.heap.size + 1, 0, none⟩ = some (.bool n2) ∧ (W).cell? ⟨w.heap.size + 1, 1, none⟩ = some (.slice A2 m2 c2) ∧ (W).cell? ⟨w.heap.size + 1, 2, none⟩ = some (.int .i64 t2) ∧ (W).cell? ⟨w.heap.size + 1, 3, none⟩ = some (.int .i64 f2)) (hb : Below W.heap.size W W') : LiveP w W' [pT (.slice A2 m2 c2) 128 N2, pT (.slice A1 m1 c1) 128 N1, pBlk (w.heap.size + 1) #[.bool n2, .slice A2 m2 c2, .int .i64 t2, .int .i64 f2] 71, pBlk w.heap.size #[.bool n1, .slice A1 m1 c1, .int .i64 t1, .int .i64 f1] 71] ∧ w.heap.size + 1 < (W').heap.size ∧ (W').cell? ⟨w.heap.size, 0, none⟩ = some (.bool n1) ∧ (W').cell? ⟨w.heap.size, 1, none⟩ = some (.slice A1 m1 c1) ∧ (W').cell? ⟨w.heap.size, 2, none⟩ = some (.int .i64 t1) ∧ (W').cell? ⟨w.heap.size, 3, none⟩ = some (.int .i64 f1) ∧ (W').cell? ⟨w.heap.size + 1, 0, none⟩ = some (.bool n2) ∧ (W').cell? ⟨w.heap.size + 1, 1, none⟩ = some (.slice A2 m2 c2) ∧ (W').cell? ⟨w.heap.size + 1, 2, none⟩ = some (.int .i64 t2) ∧ (W').cell? ⟨w.heap.size + 1, 3, none⟩ = some (.int .i64 f2) := boxX (h.1.go hb)
theorem scX1 {tw fv : Int} (h : LiveP w W [pT (.slice A2 m2 c2) 128 N2, pT (.slice A1 m1 c1) 128 N1, pBlk (w.heap.size + 1) #[.bool n2, .slice A2 m2 c2, .int .i64 t2, .int .i64 f2] 71, pBlk w.heap.size #[.bool n1, .slice A1 m1 c1, .int .i64 t1, .int .i64 f1] 71] ∧ w.heap.size + 1 < (W).heap.size ∧ (W).cell? ⟨w.heap.size, 0, none⟩ = some (.bool n1) ∧ (W).cell? ⟨w.heap.size, 1, none⟩ = some (.slice A1 m1 c1) ∧ (W).cell? ⟨w.heap.size, 2, none⟩ = some (.int .i64 t1) ∧ (W).cell? ⟨w.heap.size, 3, none⟩ = some (.int .i64 f1) ∧ (W).cell? ⟨w.heap.size + 1, 0, none⟩ = some (.bool n2) ∧ (W).cell? ⟨w.heap.size + 1, 1, none⟩ = some (.slice A2 m2 c2) ∧ (W).cell? ⟨w.heap.size + 1, 2, none⟩ = some (.int .i64 t2) ∧ (W).cell? ⟨w.heap.size + 1, 3, none⟩ = some (.int .i64 f2)) (m : Nat) (hm : 12178 ≤ m) (h2 : tw ≤ 131072) (h5 : fv ≤ 10000) : Calls Tryz.prog 182 #[.slice A1 m1 c1, .int .i64 tw, .int .i64 fv] W fun e w' => ∃ v, e = .returned v ∧ IsT w' v m (exP N1 tw fv) ∧ Below W.heap.size W w' :=
  xscaled_any m hm tw fv (IsT.isN (h.1.get (P := pT (.slice A1 m1 c1) 128 N1) (by repeat (first | exact List.mem_cons_self | apply List.mem_cons_of_mem)))) h2 h5
theorem scX2 {tw fv : Int} (h : LiveP w W [pT (.slice A2 m2 c2) 128 N2, pT (.slice A1 m1 c1) 128 N1, pBlk (w.heap.size + 1) #[.bool n2, .slice A2 m2 c2, .int .i64 t2, .int .i64 f2] 71, pBlk w.heap.size #[.bool n1, .slice A1 m1 c1, .int .i64 t1, .int .i64 f1] 71] ∧ w.heap.size + 1 < (W).heap.size ∧ (W).cell? ⟨w.heap.size, 0, none⟩ = some (.bool n1) ∧ (W).cell? ⟨w.heap.size, 1, none⟩ = some (.slice A1 m1 c1) ∧ (W).cell? ⟨w.heap.size, 2, none⟩ = some (.int .i64 t1) ∧ (W).cell? ⟨w.heap.size, 3, none⟩ = some (.int .i64 f1) ∧ (W).cell? ⟨w.heap.size + 1, 0, none⟩ = some (.bool n2) ∧ (W).cell? ⟨w.heap.size + 1, 1, none⟩ = some (.slice A2 m2 c2) ∧ (W).cell? ⟨w.heap.size + 1, 2, none⟩ = some (.int .i64 t2) ∧ (W).cell? ⟨w.heap.size + 1, 3, none⟩ = some (.int .i64 f2)) (m : Nat) (hm : 12178 ≤ m) (h2 : tw ≤ 131072) (h5 : fv ≤ 10000) : Calls Tryz.prog 182 #[.slice A2 m2 c2, .int .i64 tw, .int .i64 fv] W fun e w' => ∃ v, e = .returned v ∧ IsT w' v m (exP N2 tw fv) ∧ Below W.heap.size W w' :=
  xscaled_any m hm tw fv (IsT.isN (h.1.get (P := pT (.slice A2 m2 c2) 128 N2) (by repeat (first | exact List.mem_cons_self | apply List.mem_cons_of_mem)))) h2 h5
theorem szX1 (h : LiveP w W [pT (.slice A2 m2 c2) 128 N2, pT (.slice A1 m1 c1) 128 N1, pBlk (w.heap.size + 1) #[.bool n2, .slice A2 m2 c2, .int .i64 t2, .int .i64 f2] 71, pBlk w.heap.size #[.bool n1, .slice A1 m1 c1, .int .i64 t1, .int .i64 f1] 71] ∧ w.heap.size + 1 < (W).heap.size ∧ (W).cell? ⟨w.heap.size, 0, none⟩ = some (.bool n1) ∧ (W).cell? ⟨w.heap.size, 1, none⟩ = some (.slice A1 m1 c1) ∧ (W).cell? ⟨w.heap.size, 2, none⟩ = some (.int .i64 t1) ∧ (W).cell? ⟨w.heap.size, 3, none⟩ = some (.int .i64 f1) ∧ (W).cell? ⟨w.heap.size + 1, 0, none⟩ = some (.bool n2) ∧ (W).cell? ⟨w.heap.size + 1, 1, none⟩ = some (.slice A2 m2 c2) ∧ (W).cell? ⟨w.heap.size + 1, 2, none⟩ = some (.int .i64 t2) ∧ (W).cell? ⟨w.heap.size + 1, 3, none⟩ = some (.int .i64 f2)) (ht : -5000 ≤ t1 ∧ t1 ≤ 5000) (hf : -5000 ≤ f1 ∧ f1 ≤ 5000) : Calls Tryz.prog 147 #[.agg #[.bool n1, .slice A1 m1 c1, .int .i64 t1, .int .i64 f1]] W fun e w' => e = .returned (.int .i64 (exS (blen N1) t1 f1)) ∧ Below W.heap.size W w' :=
  xsize_any n1 t1 f1 (h.1.get (P := pT (.slice A1 m1 c1) 128 N1) (by repeat (first | exact List.mem_cons_self | apply List.mem_cons_of_mem))) ht hf
theorem szX2 (h : LiveP w W [pT (.slice A2 m2 c2) 128 N2, pT (.slice A1 m1 c1) 128 N1, pBlk (w.heap.size + 1) #[.bool n2, .slice A2 m2 c2, .int .i64 t2, .int .i64 f2] 71, pBlk w.heap.size #[.bool n1, .slice A1 m1 c1, .int .i64 t1, .int .i64 f1] 71] ∧ w.heap.size + 1 < (W).heap.size ∧ (W).cell? ⟨w.heap.size, 0, none⟩ = some (.bool n1) ∧ (W).cell? ⟨w.heap.size, 1, none⟩ = some (.slice A1 m1 c1) ∧ (W).cell? ⟨w.heap.size, 2, none⟩ = some (.int .i64 t1) ∧ (W).cell? ⟨w.heap.size, 3, none⟩ = some (.int .i64 f1) ∧ (W).cell? ⟨w.heap.size + 1, 0, none⟩ = some (.bool n2) ∧ (W).cell? ⟨w.heap.size + 1, 1, none⟩ = some (.slice A2 m2 c2) ∧ (W).cell? ⟨w.heap.size + 1, 2, none⟩ = some (.int .i64 t2) ∧ (W).cell? ⟨w.heap.size + 1, 3, none⟩ = some (.int .i64 f2)) (ht : -5000 ≤ t2 ∧ t2 ≤ 5000) (hf : -5000 ≤ f2 ∧ f2 ≤ 5000) : Calls Tryz.prog 147 #[.agg #[.bool n2, .slice A2 m2 c2, .int .i64 t2, .int .i64 f2]] W fun e w' => e = .returned (.int .i64 (exS (blen N2) t2 f2)) ∧ Below W.heap.size W w' :=
  xsize_any n2 t2 f2 (h.1.get (P := pT (.slice A2 m2 c2) 128 N2) (by repeat (first | exact List.mem_cons_self | apply List.mem_cons_of_mem))) ht hf
theorem szX1' {s : Int} (h : LiveP w W [pT (.slice A2 m2 c2) 128 N2, pT (.slice A1 m1 c1) 128 N1, pBlk (w.heap.size + 1) #[.bool n2, .slice A2 m2 c2, .int .i64 t2, .int .i64 f2] 71, pBlk w.heap.size #[.bool n1, .slice A1 m1 c1, .int .i64 t1, .int .i64 f1] 71] ∧ w.heap.size + 1 < (W).heap.size ∧ (W).cell? ⟨w.heap.size, 0, none⟩ = some (.bool n1) ∧ (W).cell? ⟨w.heap.size, 1, none⟩ = some (.slice A1 m1 c1) ∧ (W).cell? ⟨w.heap.size, 2, none⟩ = some (.int .i64 t1) ∧ (W).cell? ⟨w.heap.size, 3, none⟩ = some (.int .i64 f1) ∧ (W).cell? ⟨w.heap.size + 1, 0, none⟩ = some (.bool n2) ∧ (W).cell? ⟨w.heap.size + 1, 1, none⟩ = some (.slice A2 m2 c2) ∧ (W).cell? ⟨w.heap.size + 1, 2, none⟩ = some (.int .i64 t2) ∧ (W).cell? ⟨w.heap.size + 1, 3, none⟩ = some (.int .i64 f2)) (ht : -5000 ≤ t1 ∧ t1 ≤ 5000) (hf : -5000 ≤ f1 ∧ f1 ≤ 5000) (hs : exS (blen N1) t1 f1 = s) : Calls Tryz.prog 147 #[.agg #[.bool n1, .slice A1 m1 c1, .int .i64 t1, .int .i64 f1]] W fun e w' => e = .returned (.int .i64 s) ∧ Below W.heap.size W w' := by
  subst hs; exact szX1 h ht hf
theorem szX2' {s : Int} (h : LiveP w W [pT (.slice A2 m2 c2) 128 N2, pT (.slice A1 m1 c1) 128 N1, pBlk (w.heap.size + 1) #[.bool n2, .slice A2 m2 c2, .int .i64 t2, .int .i64 f2] 71, pBlk w.heap.size #[.bool n1, .slice A1 m1 c1, .int .i64 t1, .int .i64 f1] 71] ∧ w.heap.size + 1 < (W).heap.size ∧ (W).cell? ⟨w.heap.size, 0, none⟩ = some (.bool n1) ∧ (W).cell? ⟨w.heap.size, 1, none⟩ = some (.slice A1 m1 c1) ∧ (W).cell? ⟨w.heap.size, 2, none⟩ = some (.int .i64 t1) ∧ (W).cell? ⟨w.heap.size, 3, none⟩ = some (.int .i64 f1) ∧ (W).cell? ⟨w.heap.size + 1, 0, none⟩ = some (.bool n2) ∧ (W).cell? ⟨w.heap.size + 1, 1, none⟩ = some (.slice A2 m2 c2) ∧ (W).cell? ⟨w.heap.size + 1, 2, none⟩ = some (.int .i64 t2) ∧ (W).cell? ⟨w.heap.size + 1, 3, none⟩ = some (.int .i64 f2)) (ht : -5000 ≤ t2 ∧ t2 ≤ 5000) (hf : -5000 ≤ f2 ∧ f2 ≤ 5000) (hs : exS (blen N2) t2 f2 = s) : Calls Tryz.prog 147 #[.agg #[.bool n2, .slice A2 m2 c2, .int .i64 t2, .int .i64 f2]] W fun e w' => e = .returned (.int .i64 s) ∧ Below W.heap.size W w' := by
  subst hs; exact szX2 h ht hf
end
theorem exS_small {b : Nat} {t f : Int} (hb : b ≤ 8192) (ht : -5000 ≤ t ∧ t ≤ 5000) (hf : -5000 ≤ f ∧ f ≤ 5000) : -30000 ≤ exS b t f ∧ exS b t f ≤ 30000 := by
  have hl := lg_tdiv f
  have h1 : lg5 f.toNat ≤ 12000 := by unfold lg5; omega
  have h2 : lg5 (-f).toNat ≤ 12000 := by unfold lg5; omega
  unfold exS
  generalize (f * 2321928095).tdiv 1000000000 = q at hl ⊢
  omega
theorem blen_small {N : Nat} (hN : N < 18446744073709551616 ^ 128) : blen N ≤ 8192 := by
  have e : (18446744073709551616 : Nat) ^ 128 = 2 ^ 8192 := by decide +kernel
  rw [blen_bl]
  exact bl_iff.2 (e ▸ hN)
theorem boxes2 (w : World) (a b : Array Value) (t : TypeId) : LiveP w ((w.alloc (.cells a t)).alloc (.cells b t)) [pBlk (w.heap.size + 1) b t, pBlk w.heap.size a t] := by
  have hb0 := (Below.refl w.heap.size w).alloc (Nat.le_refl _) (.cells a t)
  have h1 := ((LiveP.start w).go hb0).put (pBlk_st _ _ _) (pBlk_made w a t)
  have h2 := h1.go ((Below.refl _ _).alloc (Nat.le_refl _) (.cells b t))
  refine h2.put (pBlk_st _ _ _) ?_
  have := pBlk_made (w.alloc (.cells a t)) b t
  rw [show (w.alloc (.cells a t)).heap.size = w.heap.size + 1 by simp] at this
  exact this
set_option maxRecDepth 100000 in
set_option maxHeartbeats 4000000 in
theorem xcmp_any {w : World} {A1 A2 : Option Addr} {m1 m2 c1 c2 N1 N2 : Nat} (n1 n2 : Bool) (t1 t2 f1 f2 : Int) (h1 : IsT w (.slice A1 m1 c1) 128 N1) (h2 : IsT w (.slice A2 m2 c2) 128 N2)
    (ht1 : -5000 ≤ t1 ∧ t1 ≤ 5000) (ht2 : -5000 ≤ t2 ∧ t2 ≤ 5000) (hf1 : -5000 ≤ f1 ∧ f1 ≤ 5000) (hf2 : -5000 ≤ f2 ∧ f2 ≤ 5000) :
    Calls Tryz.prog 148 #[.agg #[.bool n1, .slice A1 m1 c1, .int .i64 t1, .int .i64 f1], .agg #[.bool n2, .slice A2 m2 c2, .int .i64 t2, .int .i64 f2]] w fun e w' => e = .returned (.int .i64 (exC N1 t1 f1 N2 t2 f2)) ∧ Below w.heap.size w w' := by
  have hb0 : Below w.heap.size w ((w.alloc (.cells #[.bool n1, .slice A1 m1 c1, .int .i64 t1, .int .i64 f1] 71)).alloc (.cells #[.bool n2, .slice A2 m2 c2, .int .i64 t2, .int .i64 f2] 71)) := ((Below.refl _ _).alloc (Nat.le_refl _) _).alloc (by simp) _
  have hL := ((boxes2 w #[.bool n1, .slice A1 m1 c1, .int .i64 t1, .int .i64 f1] #[.bool n2, .slice A2 m2 c2, .int .i64 t2, .int .i64 f2] 71).put (pT_st (.slice A1 m1 c1) 128 N1) (h1.below hb0)).put (pT_st (.slice A2 m2 c2) 128 N2) (h2.below hb0)
  have hS := boxX hL
  obtain ⟨-, hlt, d0, d1, d2, d3, e0, e1, e2, e3⟩ := id hS
  by_cases hz : N1 = 0 ∨ N2 = 0
  · have hC : exC N1 t1 f1 N2 t2 f2 = cmpV (N1 : Int) (N2 : Int) := by
      rcases hz with rfl | rfl
      · exact exC_zero_l
      · exact exC_zero_r
    rw [hC]
    have hcm := Lib.hid (cmp_t (IsT.isN (hL.get (P := pT (.slice A1 m1 c1) 128 N1) (by repeat (first | exact List.mem_cons_self | apply List.mem_cons_of_mem)))) (IsT.isN (hL.get (P := pT (.slice A2 m2 c2) 128 N2) (by repeat (first | exact List.mem_cons_self | apply List.mem_cons_of_mem)))) (by decide) (by decide))
    have hml : (m1 = 0 ∨ (0 < m1 ∧ m2 = 0)) := by
      rcases isT_zero h1 with ⟨a, b⟩ | ⟨a, b⟩
      · exact .inl a
      · rcases isT_zero h2 with ⟨c, d⟩ | ⟨c, d⟩
        · exact .inr ⟨a, c⟩
        · omega
    clear hC hz hL hS
    rcases hml with rfl | ⟨hm, rfl⟩
    all_goals
      go_enter Tryz.func148, Tryz.ntmps148
      go_wp2_with fail
      refine hcm.out.mono ?_
      rintro e w1 ⟨rfl, hb1⟩
      go_wp2
      go_ret
      exact ⟨rfl, hb0.trans (hb1.mono (by simp; omega))⟩
  · have hN1 : 0 < N1 := by omega
    have hN2 : 0 < N2 := by omega
    have hm1 : 0 < m1 := by rcases isT_zero h1 with ⟨a, b⟩ | ⟨a, b⟩ <;> omega
    have hm2 : 0 < m2 := by rcases isT_zero h2 with ⟨a, b⟩ | ⟨a, b⟩ <;> omega
    obtain ⟨p1, p2⟩ := blen_bnd hN1
    obtain ⟨q1, q2⟩ := blen_bnd hN2
    have fgt := Lib.hid (fun h => exC_far_gt (t1 := t1) (t2 := t2) p1 p2 q1 q2 hf1 hf2 ⟨by omega, by omega⟩ ⟨by omega, by omega⟩ h)
    have flt := Lib.hid (fun h => exC_far_lt (t1 := t1) (t2 := t2) p1 p2 q1 q2 hf1 hf2 ⟨by omega, by omega⟩ ⟨by omega, by omega⟩ h)
    have hsc := Lib.hid (exC_scaled N1 t1 f1 N2 t2 f2)
    have hsb := exS_small (b := blen N1) (t := t1) (f := f1) (blen_small h1.isN.lt) ht1 hf1
    have hsb' := exS_small (b := blen N2) (t := t2) (f := f2) (blen_small h2.isN.lt) ht2 hf2
    have hS0 := boxX (hL.go (Below.refl _ _).drew)
    clear p1 p2 q1 q2 hz hN1 hN2 h1 h2 hS
    obtain ⟨s1, hs1⟩ : ∃ s, exS (blen N1) t1 f1 = s := ⟨_, rfl⟩
    obtain ⟨s2, hs2⟩ : ∃ s, exS (blen N2) t2 f2 = s := ⟨_, rfl⟩
    rw [hs1, hs2] at fgt flt
    rw [hs1] at hsb
    rw [hs2] at hsb'
    replace hs1 := Lib.hid hs1
    replace hs2 := Lib.hid hs2
    replace ht1 := Lib.hid ht1
    replace ht2 := Lib.hid ht2
    replace hf1 := Lib.hid hf1
    replace hf2 := Lib.hid hf2
    obtain ⟨hsb1, hsb2⟩ := hsb
    obtain ⟨hsb3, hsb4⟩ := hsb'
    have hm1' : ((m1 : Int) == 0) = false := by simp; omega
    have hm2' : ((m2 : Int) == 0) = false := by simp; omega
    have hCs : 6 < s1 - s2 ∨ s1 - s2 < -6 ∨ (¬ 6 < s1 - s2 ∧ ¬ s1 - s2 < -6) := by omega
    have hwr : IntKind.i64.wrap (s1 - s2) = s1 - s2 := by rw [IntKind.wrap_i64]; omega
    rcases hCs with hc | hc | ⟨hc, hc'⟩
    · rw [fgt.out hc]
      clear fgt flt hsc
      go_enter Tryz.func148, Tryz.ntmps148
      go_wp2_with fail
      go_region_held3 (fun w' => LiveP w w' [pT (.slice A2 m2 c2) 128 N2, pT (.slice A1 m1 c1) 128 N1, pBlk (w.heap.size + 1) #[.bool n2, .slice A2 m2 c2, .int .i64 t2, .int .i64 f2] 71, pBlk w.heap.size #[.bool n1, .slice A1 m1 c1, .int .i64 t1, .int .i64 f1] 71] ∧ w.heap.size + 1 < (w').heap.size ∧ (w').cell? ⟨w.heap.size, 0, none⟩ = some (.bool n1) ∧ (w').cell? ⟨w.heap.size, 1, none⟩ = some (.slice A1 m1 c1) ∧ (w').cell? ⟨w.heap.size, 2, none⟩ = some (.int .i64 t1) ∧ (w').cell? ⟨w.heap.size, 3, none⟩ = some (.int .i64 f1) ∧ (w').cell? ⟨w.heap.size + 1, 0, none⟩ = some (.bool n2) ∧ (w').cell? ⟨w.heap.size + 1, 1, none⟩ = some (.slice A2 m2 c2) ∧ (w').cell? ⟨w.heap.size + 1, 2, none⟩ = some (.int .i64 t2) ∧ (w').cell? ⟨w.heap.size + 1, 3, none⟩ = some (.int .i64 f2)) (first | exact hS0 | with_reducible assumption | exact keepX (by with_reducible assumption) (by with_reducible assumption))
        (first
          | (go_at_call 147; with_reducible refine (szX1' (by with_reducible assumption) ht1.out hf1.out hs1.out).mono ?_; rintro e w4 ⟨rfl, hb4⟩)
          | (go_at_call 147; with_reducible refine (szX2' (by with_reducible assumption) ht2.out hf2.out hs2.out).mono ?_; rintro e w5 ⟨rfl, hb5⟩))
      have hq : LiveP w w5 [pT (.slice A2 m2 c2) 128 N2, pT (.slice A1 m1 c1) 128 N1, pBlk (w.heap.size + 1) #[.bool n2, .slice A2 m2 c2, .int .i64 t2, .int .i64 f2] 71, pBlk w.heap.size #[.bool n1, .slice A1 m1 c1, .int .i64 t1, .int .i64 f1] 71] ∧ w.heap.size + 1 < (w5).heap.size ∧ (w5).cell? ⟨w.heap.size, 0, none⟩ = some (.bool n1) ∧ (w5).cell? ⟨w.heap.size, 1, none⟩ = some (.slice A1 m1 c1) ∧ (w5).cell? ⟨w.heap.size, 2, none⟩ = some (.int .i64 t1) ∧ (w5).cell? ⟨w.heap.size, 3, none⟩ = some (.int .i64 f1) ∧ (w5).cell? ⟨w.heap.size + 1, 0, none⟩ = some (.bool n2) ∧ (w5).cell? ⟨w.heap.size + 1, 1, none⟩ = some (.slice A2 m2 c2) ∧ (w5).cell? ⟨w.heap.size + 1, 2, none⟩ = some (.int .i64 t2) ∧ (w5).cell? ⟨w.heap.size + 1, 3, none⟩ = some (.int .i64 f2) := by with_reducible assumption
      go_wp2
      go_ret
      exact ⟨rfl, hq.1.below⟩
    · rw [flt.out hc]
      clear fgt flt hsc
      go_enter Tryz.func148, Tryz.ntmps148
      go_wp2_with fail
      go_region_held3 (fun w' => LiveP w w' [pT (.slice A2 m2 c2) 128 N2, pT (.slice A1 m1 c1) 128 N1, pBlk (w.heap.size + 1) #[.bool n2, .slice A2 m2 c2, .int .i64 t2, .int .i64 f2] 71, pBlk w.heap.size #[.bool n1, .slice A1 m1 c1, .int .i64 t1, .int .i64 f1] 71] ∧ w.heap.size + 1 < (w').heap.size ∧ (w').cell? ⟨w.heap.size, 0, none⟩ = some (.bool n1) ∧ (w').cell? ⟨w.heap.size, 1, none⟩ = some (.slice A1 m1 c1) ∧ (w').cell? ⟨w.heap.size, 2, none⟩ = some (.int .i64 t1) ∧ (w').cell? ⟨w.heap.size, 3, none⟩ = some (.int .i64 f1) ∧ (w').cell? ⟨w.heap.size + 1, 0, none⟩ = some (.bool n2) ∧ (w').cell? ⟨w.heap.size + 1, 1, none⟩ = some (.slice A2 m2 c2) ∧ (w').cell? ⟨w.heap.size + 1, 2, none⟩ = some (.int .i64 t2) ∧ (w').cell? ⟨w.heap.size + 1, 3, none⟩ = some (.int .i64 f2)) (first | exact hS0 | with_reducible assumption | exact keepX (by with_reducible assumption) (by with_reducible assumption))
        (first
          | (go_at_call 147; with_reducible refine (szX1' (by with_reducible assumption) ht1.out hf1.out hs1.out).mono ?_; rintro e w4 ⟨rfl, hb4⟩)
          | (go_at_call 147; with_reducible refine (szX2' (by with_reducible assumption) ht2.out hf2.out hs2.out).mono ?_; rintro e w5 ⟨rfl, hb5⟩))
      have hq : LiveP w w5 [pT (.slice A2 m2 c2) 128 N2, pT (.slice A1 m1 c1) 128 N1, pBlk (w.heap.size + 1) #[.bool n2, .slice A2 m2 c2, .int .i64 t2, .int .i64 f2] 71, pBlk w.heap.size #[.bool n1, .slice A1 m1 c1, .int .i64 t1, .int .i64 f1] 71] ∧ w.heap.size + 1 < (w5).heap.size ∧ (w5).cell? ⟨w.heap.size, 0, none⟩ = some (.bool n1) ∧ (w5).cell? ⟨w.heap.size, 1, none⟩ = some (.slice A1 m1 c1) ∧ (w5).cell? ⟨w.heap.size, 2, none⟩ = some (.int .i64 t1) ∧ (w5).cell? ⟨w.heap.size, 3, none⟩ = some (.int .i64 f1) ∧ (w5).cell? ⟨w.heap.size + 1, 0, none⟩ = some (.bool n2) ∧ (w5).cell? ⟨w.heap.size + 1, 1, none⟩ = some (.slice A2 m2 c2) ∧ (w5).cell? ⟨w.heap.size + 1, 2, none⟩ = some (.int .i64 t2) ∧ (w5).cell? ⟨w.heap.size + 1, 3, none⟩ = some (.int .i64 f2) := by with_reducible assumption
      go_wp2
      go_ret
      exact ⟨rfl, hq.1.below⟩
    · rw [← hsc.out]
      clear fgt flt
      obtain ⟨m, hm⟩ : ∃ m : Nat, m = 12178 := ⟨_, rfl⟩
      have hm1 : 12178 ≤ m := by omega
      have hm2 : m ≤ 1048576 := by omega
      have hk1 : t1 - t2 ≤ 131072 := by have := ht1.out; have := ht2.out; omega
      have hk2 : f1 - f2 ≤ 10000 := by have := hf1.out; have := hf2.out; omega
      have hk3 : t2 - t1 ≤ 131072 := by have := ht1.out; have := ht2.out; omega
      have hk4 : f2 - f1 ≤ 10000 := by have := hf1.out; have := hf2.out; omega
      have hr1 : -131072 ≤ t1 - t2 := by have := ht1.out; have := ht2.out; omega
      have hr2 : -10000 ≤ f1 - f2 := by have := hf1.out; have := hf2.out; omega
      clear hm
      have hcmp := Lib.hid fun (W : World) (v1 v2 : Value) (h1 : IsT W v1 m (exP N1 (t1 - t2) (f1 - f2))) (h2 : IsT W v2 m (exP N2 (t2 - t1) (f2 - f1))) => cmp_t (IsT.isN h1) (IsT.isN h2) hm2 hm2
      go_enter Tryz.func148, Tryz.ntmps148
      go_wp2_with fail
      go_region_held3 (fun w' => LiveP w w' [pT (.slice A2 m2 c2) 128 N2, pT (.slice A1 m1 c1) 128 N1, pBlk (w.heap.size + 1) #[.bool n2, .slice A2 m2 c2, .int .i64 t2, .int .i64 f2] 71, pBlk w.heap.size #[.bool n1, .slice A1 m1 c1, .int .i64 t1, .int .i64 f1] 71] ∧ w.heap.size + 1 < (w').heap.size ∧ (w').cell? ⟨w.heap.size, 0, none⟩ = some (.bool n1) ∧ (w').cell? ⟨w.heap.size, 1, none⟩ = some (.slice A1 m1 c1) ∧ (w').cell? ⟨w.heap.size, 2, none⟩ = some (.int .i64 t1) ∧ (w').cell? ⟨w.heap.size, 3, none⟩ = some (.int .i64 f1) ∧ (w').cell? ⟨w.heap.size + 1, 0, none⟩ = some (.bool n2) ∧ (w').cell? ⟨w.heap.size + 1, 1, none⟩ = some (.slice A2 m2 c2) ∧ (w').cell? ⟨w.heap.size + 1, 2, none⟩ = some (.int .i64 t2) ∧ (w').cell? ⟨w.heap.size + 1, 3, none⟩ = some (.int .i64 f2)) (first | exact hS0 | with_reducible assumption | exact keepX (by with_reducible assumption) (by with_reducible assumption))
        (first
          | (go_at_call 147; with_reducible refine (szX1' (by with_reducible assumption) ht1.out hf1.out hs1.out).mono ?_; rintro e w4 ⟨rfl, hb4⟩)
          | (go_at_call 147; with_reducible refine (szX2' (by with_reducible assumption) ht2.out hf2.out hs2.out).mono ?_; rintro e w5 ⟨rfl, hb5⟩))
      have hq : LiveP w w5 [pT (.slice A2 m2 c2) 128 N2, pT (.slice A1 m1 c1) 128 N1, pBlk (w.heap.size + 1) #[.bool n2, .slice A2 m2 c2, .int .i64 t2, .int .i64 f2] 71, pBlk w.heap.size #[.bool n1, .slice A1 m1 c1, .int .i64 t1, .int .i64 f1] 71] ∧ w.heap.size + 1 < (w5).heap.size ∧ (w5).cell? ⟨w.heap.size, 0, none⟩ = some (.bool n1) ∧ (w5).cell? ⟨w.heap.size, 1, none⟩ = some (.slice A1 m1 c1) ∧ (w5).cell? ⟨w.heap.size, 2, none⟩ = some (.int .i64 t1) ∧ (w5).cell? ⟨w.heap.size, 3, none⟩ = some (.int .i64 f1) ∧ (w5).cell? ⟨w.heap.size + 1, 0, none⟩ = some (.bool n2) ∧ (w5).cell? ⟨w.heap.size + 1, 1, none⟩ = some (.slice A2 m2 c2) ∧ (w5).cell? ⟨w.heap.size + 1, 2, none⟩ = some (.int .i64 t2) ∧ (w5).cell? ⟨w.heap.size + 1, 3, none⟩ = some (.int .i64 f2) := by with_reducible assumption
      clear hS0 hlt d0 d1 d2 d3 e0 e1 e2 e3
      obtain ⟨hLq, hlt, d0, d1, d2, d3, e0, e1, e2, e3⟩ := id hq
      go_wp2_with fail
      go_quiet (fail)
      have hL0 : LiveP w (w5.drewN nq) [pT (.slice A2 m2 c2) 128 N2, pT (.slice A1 m1 c1) 128 N1, pBlk (w.heap.size + 1) #[.bool n2, .slice A2 m2 c2, .int .i64 t2, .int .i64 f2] 71, pBlk w.heap.size #[.bool n1, .slice A1 m1 c1, .int .i64 t1, .int .i64 f1] 71] := hLq.go ⟨rfl, rfl, rfl, Nat.le_refl _, fun _ _ => rfl⟩
      clear hlt d0 d1 d2 d3 e0 e1 e2 e3
      obtain ⟨W0, hW0⟩ : ∃ W0, w5.drewN nq = W0 := ⟨_, rfl⟩
      rw [hW0] at hL0 ⊢
      clear hW0
      obtain ⟨-, hlt, d0, d1, d2, d3, e0, e1, e2, e3⟩ := boxX hL0
      have hS1 := boxX (hL0.go (Below.refl _ _).drew)
      have hwt := Lib.hid (show IntKind.i64.wrap (t2 - t1) = t2 - t1 by rw [IntKind.wrap_i64]; omega)
      have hwf := Lib.hid (show IntKind.i64.wrap (f2 - f1) = f2 - f1 by rw [IntKind.wrap_i64]; omega)
      have hwt' := Lib.hid (show IntKind.i64.wrap (-(t1 - t2)) = t2 - t1 by rw [IntKind.wrap_i64]; omega)
      have hwf' := Lib.hid (show IntKind.i64.wrap (-(f1 - f2)) = f2 - f1 by rw [IntKind.wrap_i64]; omega)
      clear hq hLq
      go_wp2_with fail
      go_region_held3 (fun w' => LiveP w w' [pT (.slice A2 m2 c2) 128 N2, pT (.slice A1 m1 c1) 128 N1, pBlk (w.heap.size + 1) #[.bool n2, .slice A2 m2 c2, .int .i64 t2, .int .i64 f2] 71, pBlk w.heap.size #[.bool n1, .slice A1 m1 c1, .int .i64 t1, .int .i64 f1] 71] ∧ w.heap.size + 1 < (w').heap.size ∧ (w').cell? ⟨w.heap.size, 0, none⟩ = some (.bool n1) ∧ (w').cell? ⟨w.heap.size, 1, none⟩ = some (.slice A1 m1 c1) ∧ (w').cell? ⟨w.heap.size, 2, none⟩ = some (.int .i64 t1) ∧ (w').cell? ⟨w.heap.size, 3, none⟩ = some (.int .i64 f1) ∧ (w').cell? ⟨w.heap.size + 1, 0, none⟩ = some (.bool n2) ∧ (w').cell? ⟨w.heap.size + 1, 1, none⟩ = some (.slice A2 m2 c2) ∧ (w').cell? ⟨w.heap.size + 1, 2, none⟩ = some (.int .i64 t2) ∧ (w').cell? ⟨w.heap.size + 1, 3, none⟩ = some (.int .i64 f2)) (first | exact hS1 | with_reducible assumption | exact keepX (by with_reducible assumption) (by with_reducible assumption))
        (first
          | (go_at_call 182; with_reducible refine (scX1 (by with_reducible assumption) m hm1 hk1 hk2).mono ?_; rintro e w6 ⟨v6, rfl, hv6, hb6⟩)
          | (go_at_call 182; (try rw [hwt.out]); (try rw [hwf.out]); (try rw [hwt'.out]); (try rw [hwf'.out]); with_reducible refine (scX2 (by with_reducible assumption) m hm1 hk3 hk4).mono ?_; rintro e w7 ⟨v7, rfl, hv7, hb7⟩)
          | (go_at_call 21; with_reducible refine (hcmp.out _ _ _ (hv6.below (by with_reducible assumption)) hv7).mono ?_; rintro e w8 ⟨rfl, hb8⟩))
      go_wp2
      go_ret
      refine ⟨rfl, ?_⟩
      have hq8 : LiveP w w8 [pT (.slice A2 m2 c2) 128 N2, pT (.slice A1 m1 c1) 128 N1, pBlk (w.heap.size + 1) #[.bool n2, .slice A2 m2 c2, .int .i64 t2, .int .i64 f2] 71, pBlk w.heap.size #[.bool n1, .slice A1 m1 c1, .int .i64 t1, .int .i64 f1] 71] ∧ w.heap.size + 1 < (w8).heap.size ∧ (w8).cell? ⟨w.heap.size, 0, none⟩ = some (.bool n1) ∧ (w8).cell? ⟨w.heap.size, 1, none⟩ = some (.slice A1 m1 c1) ∧ (w8).cell? ⟨w.heap.size, 2, none⟩ = some (.int .i64 t1) ∧ (w8).cell? ⟨w.heap.size, 3, none⟩ = some (.int .i64 f1) ∧ (w8).cell? ⟨w.heap.size + 1, 0, none⟩ = some (.bool n2) ∧ (w8).cell? ⟨w.heap.size + 1, 1, none⟩ = some (.slice A2 m2 c2) ∧ (w8).cell? ⟨w.heap.size + 1, 2, none⟩ = some (.int .i64 t2) ∧ (w8).cell? ⟨w.heap.size + 1, 3, none⟩ = some (.int .i64 f2) := by with_reducible assumption
      exact hq8.1.below
end Go.Proofs.YtncfbleeidjflaaGreatDoor
namespace Go.Proofs.YtncfbleeidjflaaGreatDoor
open Go.RowKit Go.Cal
theorem nof_x (w : World) (m : Nat) (hm : m < 18446744073709551616) : Calls Tryz.prog 96 #[.int .u64 m] w fun e w' => ∃ A n c, e = .returned (.slice A n c) ∧ IsT w' (.slice A n c) 128 m ∧ Below w.heap.size w w' := by
  refine (of_t w m hm).mono ?_
  rintro e w' ⟨v, rfl, hv, hb⟩
  have hv' : IsT w' v 128 m := by
    obtain ⟨A, c, zs, h1, h2, h3, h4, h5, h6⟩ := hv
    exact ⟨A, c, zs, h1, h2, h3, h4, by omega, h6⟩
  obtain ⟨A, c, zs, rfl, -⟩ := id hv'
  exact ⟨A, _, c, rfl, hv', hb⟩
set_option maxRecDepth 100000 in
set_option maxHeartbeats 1000000 in
theorem xof_fin (neg : Bool) (m : Nat) (t : Int) (hm : m < 18446744073709551616) (ht : -5000 ≤ t ∧ t ≤ 5000) (w : World) :
    Calls Tryz.prog 143 #[.agg #[.int .i64 2, .bool neg, .int .u64 m, .int .i64 t]] w fun e w' => ∃ A n c, e = .returned (.tuple #[.agg #[.bool neg, .slice A n c, .int .i64 t, .int .i64 0], .bool true]) ∧ IsT w' (.slice A n c) 128 m ∧ Below w.heap.size w w' := by
  obtain ⟨ht1, ht2⟩ := ht
  have hb0 : Below w.heap.size w ((w.alloc (.cells #[.int .i64 2, .bool neg, .int .u64 m, .int .i64 t] 46)).alloc (.cells #[.bool false, .slice none 0 0, .int .i64 0, .int .i64 0] 71)) := ((Below.refl _ _).alloc (Nat.le_refl _) _).alloc (by simp) _
  have hof := Lib.hid fun w' => nof_x w' m hm
  go_enter Tryz.func143, Tryz.ntmps143
  go_wp2_with fail
  refine (xin_yes t ht1 ht2 _).mono ?_
  rintro e w1 ⟨rfl, rfl⟩
  go_wp2_with fail
  have hp1 : pBlk (w.heap.size + 1) #[.bool false, .slice none 0 0, .int .i64 0, .int .i64 0] 71 ((w.alloc (.cells #[.int .i64 2, .bool neg, .int .u64 m, .int .i64 t] 46)).alloc (.cells #[.bool false, .slice none 0 0, .int .i64 0, .int .i64 0] 71)).drew := by
    have := pBlk_st _ _ _ _ _ (pBlk_made (w.alloc (.cells #[.int .i64 2, .bool neg, .int .u64 m, .int .i64 t] 46)) #[.bool false, .slice none 0 0, .int .i64 0, .int .i64 0] 71) (Below.refl _ _).drew
    rw [show (w.alloc (.cells #[.int .i64 2, .bool neg, .int .u64 m, .int .i64 t] 46)).heap.size = w.heap.size + 1 by simp] at this
    exact this
  have hp0 := pBlk_st _ _ _ _ _ (pBlk_st _ _ _ _ _ (pBlk_made w #[.int .i64 2, .bool neg, .int .u64 m, .int .i64 t] 46) ((Below.refl _ _).alloc (Nat.le_refl _) (.cells #[.bool false, .slice none 0 0, .int .i64 0, .int .i64 0] 71))) (Below.refl _ _).drew
  go_region_with (go_at_call 96; refine (hof.out _).mono ?_; rintro e w2 ⟨A, n, c, rfl, hv2, hb2⟩; obtain ⟨hc2, hf2⟩ := bcell hb2)
  all_goals
    have hp2 := pBlk_st _ _ _ _ _ hp1 hb2
    have hBw : Below w.heap.size w w2 := hb0.trans ((Below.refl _ _).drew.trans (hb2.mono (by simp; omega)))
    obtain ⟨g, hg⟩ : ∃ g, w.heap.size + 1 = g := ⟨_, rfl⟩
    have hgl : w.heap.size ≤ g := by omega
    rw [hg] at hp2 ⊢
    have hno : ∀ (a b c d : Value), (∀ n, a ≠ .int .u64 n) → (∀ n, b ≠ .int .u64 n) → (∀ n, c ≠ .int .u64 n) → (∀ n, d ≠ .int .u64 n) → ∀ x ∈ (#[a, b, c, d] : Array Value).toList, ∀ n, x ≠ .int .u64 n := by
      intro a b c d ha hb hc hd x hx
      simp at hx
      rcases hx with rfl | rfl | rfl | rfl <;> assumption
    have hvf := IsT.apartX (i := 3) (u := .int .i64 0) (IsT.apartX (i := 2) (u := .int .i64 t) (IsT.apartX (i := 1) (u := .slice A n c) (IsT.apartX (i := 0) (u := .bool neg) hv2 hp2 (hno _ _ _ _ (by simp) (by simp) (by simp) (by simp))) (hp2.setX 0 (.bool neg)) (hno _ _ _ _ (by simp) (by simp) (by simp) (by simp))) ((hp2.setX 0 (.bool neg)).setX 1 (.slice A n c)) (hno _ _ _ _ (by simp) (by simp) (by simp) (by simp))) (((hp2.setX 0 (.bool neg)).setX 1 (.slice A n c)).setX 2 (.int .i64 t)) (hno _ _ _ _ (by simp) (by simp) (by simp) (by simp))
    have hpf := (((hp2.setX 0 (.bool neg)).setX 1 (.slice A n c)).setX 2 (.int .i64 t)).setX 3 (.int .i64 0)
    have hBf : Below w.heap.size w ((((w2.setCell ⟨g, 0, none⟩ (.bool neg)).setCell ⟨g, 1, none⟩ (.slice A n c)).setCell ⟨g, 2, none⟩ (.int .i64 t)).setCell ⟨g, 3, none⟩ (.int .i64 0)) :=
      (((hBw.setCell (p := ⟨g, 0, none⟩) hgl _).setCell (p := ⟨g, 1, none⟩) hgl _).setCell (p := ⟨g, 2, none⟩) hgl _).setCell (p := ⟨g, 3, none⟩) hgl _
    generalize ((((w2.setCell ⟨g, 0, none⟩ (.bool neg)).setCell ⟨g, 1, none⟩ (.slice A n c)).setCell ⟨g, 2, none⟩ (.int .i64 t)).setCell ⟨g, 3, none⟩ (.int .i64 0)) = w3 at hvf hpf hBf ⊢
    have y0 := pBlk.cell hpf 0 (.bool neg) rfl
    have y1 := pBlk.cell hpf 1 (.slice A n c) rfl
    have y2 := pBlk.cell hpf 2 (.int .i64 t) rfl
    have y3 := pBlk.cell hpf 3 (.int .i64 0) rfl
    clear hpf hno hp2 hc2 hf2 hp1 hp0 hv2 hb2 hBw
    go_wp2
    exact bodyPost_ret (v := .tuple #[.agg #[.bool neg, .slice A n c, .int .i64 t, .int .i64 0], .bool true]) (by simp [results, Tryz.results143, go_sem, y0, y1, y2, y3]) rfl ⟨A, n, c, rfl, hvf, hBf⟩
end Go.Proofs.YtncfbleeidjflaaGreatDoor
