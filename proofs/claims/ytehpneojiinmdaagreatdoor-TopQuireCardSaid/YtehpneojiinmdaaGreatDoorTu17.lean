/- Exact numbers: Cmp, walked: the order by cross products. Conditions: none. -/
/- Rounding: a size out of a number of one word, the boundaries, walked. Conditions: the variables that values read. -/
/- Rounding: the boundaries, walked. Conditions: the variables that values read. -/
/- Exact numbers: Floor, walked. Conditions: none. -/
/- Rounding: is a size to be rounded to a magnitude or a lesser one, walked. Conditions: the variables that values read. -/
import Derived.Test.YtehpneojiinmdaaGreatDoorTu15
import Derived.Deep.RegionHeld3
import Derived.Test.YtehpneojiinmdaaGreatDoorTu01
namespace Go.Proofs.YtehpneojiinmdaaGreatDoor
open Go.RowKit Go.Cal
theorem isT_zero {w : World} {A : Option Addr} {n c k N : Nat} (h : IsT w (.slice A n c) k N) : (n = 0 ∧ N = 0) ∨ (0 < n ∧ 0 < N) := by
  obtain ⟨A', c', zs, e, _, _, _, _, nr⟩ := h
  injection e with e1 e2 e3
  subst e2
  cases zs with
  | nil => exact .inl ⟨rfl, by rw [← nr.val]; rfl⟩
  | cons x r =>
    refine .inr ⟨by simp, ?_⟩
    have := vl_pos (b := 18446744073709551616) nr.top (by simp)
    rw [nr.val] at this
    exact Nat.lt_of_lt_of_le (Nat.pow_pos (by decide)) this
theorem blen_bnd {N : Nat} (h : 0 < N) : N < 2 ^ blen N ∧ 2 ^ blen N ≤ 2 * N := by
  obtain ⟨h1, h2⟩ := bl_pos h
  rw [blen_bl]
  refine ⟨bl_lt N, ?_⟩
  have : 2 ^ bl N = 2 * 2 ^ (bl N - 1) := by rw [← Nat.pow_succ', Nat.succ_eq_add_one, show bl N - 1 + 1 = bl N by omega]
  omega
section
variable {w W W' : World} {n1 n2 : Bool} {A1 A2 : Option Addr} {m1 m2 c1 c2 N1 N2 : Nat} {t1 t2 f1 f2 : Int}
theorem boxX (h : LiveP w W [pT (.slice A2 m2 c2) 128 N2, pT (.slice A1 m1 c1) 128 N1, pBlk (w.heap.size + 1) #[.bool n2, .slice A2 m2 c2, .int .i64 t2, .int .i64 f2] 52, pBlk w.heap.size #[.bool n1, .slice A1 m1 c1, .int .i64 t1, .int .i64 f1] 52]) : LiveP w W [pT (.slice A2 m2 c2) 128 N2, pT (.slice A1 m1 c1) 128 N1, pBlk (w.heap.size + 1) #[.bool n2, .slice A2 m2 c2, .int .i64 t2, .int .i64 f2] 52, pBlk w.heap.size #[.bool n1, .slice A1 m1 c1, .int .i64 t1, .int .i64 f1] 52] ∧ w.heap.size + 1 < (W).heap.size ∧ (W).cell? ⟨w.heap.size, 0, none⟩ = some (.bool n1) ∧ (W).cell? ⟨w.heap.size, 1, none⟩ = some (.slice A1 m1 c1) ∧ (W).cell? ⟨w.heap.size, 2, none⟩ = some (.int .i64 t1) ∧ (W).cell? ⟨w.heap.size, 3, none⟩ = some (.int .i64 f1) ∧ (W).cell? ⟨w.heap.size + 1, 0, none⟩ = some (.bool n2) ∧ (W).cell? ⟨w.heap.size + 1, 1, none⟩ = some (.slice A2 m2 c2) ∧ (W).cell? ⟨w.heap.size + 1, 2, none⟩ = some (.int .i64 t2) ∧ (W).cell? ⟨w.heap.size + 1, 3, none⟩ = some (.int .i64 f2) := by
  have p1 := h.get (P := pBlk w.heap.size #[.bool n1, .slice A1 m1 c1, .int .i64 t1, .int .i64 f1] 52) (by repeat (first | exact List.mem_cons_self | apply List.mem_cons_of_mem))
  have p2 := h.get (P := pBlk (w.heap.size + 1) #[.bool n2, .slice A2 m2 c2, .int .i64 t2, .int .i64 f2] 52) (by repeat (first | exact List.mem_cons_self | apply List.mem_cons_of_mem))
  have e := p2.cell 0 _ rfl
  have hlt : w.heap.size + 1 < W.heap.size := by
    have := p2
    unfold pBlk at this
    exact (Array.getElem?_eq_some_iff.1 this).1
  exact ⟨h, hlt, p1.cell 0 _ rfl, p1.cell 1 _ rfl, p1.cell 2 _ rfl, p1.cell 3 _ rfl, e, p2.cell 1 _ rfl, p2.cell 2 _ rfl, p2.cell 3 _ rfl⟩
theorem keepX (h : LiveP w W [pT (.slice A2 m2 c2) 128 N2, pT (.slice A1 m1 c1) 128 N1, pBlk (w.heap.size + 1) #[.bool n2, .slice A2 m2 c2, .int .i64 t2, .int .i64 f2] 52, pBlk w.heap.size #[.bool n1, .slice A1 m1 c1, .int .i64 t1, .int .i64 f1] 52] ∧ w.heap.size + 1 < (W).heap.size ∧ (W).cell? ⟨w.heap.size, 0, none⟩ = some (.bool n1) ∧ (W).cell? ⟨w.heap.size, 1, none⟩ = some (.slice A1 m1 c1) ∧ (W).cell? ⟨w.heap.size, 2, none⟩ = some (.int .i64 t1) ∧ (W).cell? ⟨w.heap.size, 3, none⟩ = some (.int .i64 f1) ∧ (W).cell? ⟨w.heap.size + 1, 0, none⟩ = some (.bool n2) ∧ (W).cell? ⟨w.heap.size + 1, 1, none⟩ = some (.slice A2 m2 c2) ∧ (W).cell? ⟨w.heap.size + 1, 2, none⟩ = some (.int .i64 t2) ∧ (W).cell? ⟨w.heap.size + 1, 3, none⟩ = some (.int .i64 f2)) (hb : Below W.heap.size W W') : LiveP w W' [pT (.slice A2 m2 c2) 128 N2, pT (.slice A1 m1 c1) 128 N1, pBlk (w.heap.size + 1) #[.bool n2, .slice A2 m2 c2, .int .i64 t2, .int .i64 f2] 52, pBlk w.heap.size #[.bool n1, .slice A1 m1 c1, .int .i64 t1, .int .i64 f1] 52] ∧ w.heap.size + 1 < (W').heap.size ∧ (W').cell? ⟨w.heap.size, 0, none⟩ = some (.bool n1) ∧ (W').cell? ⟨w.heap.size, 1, none⟩ = some (.slice A1 m1 c1) ∧ (W').cell? ⟨w.heap.size, 2, none⟩ = some (.int .i64 t1) ∧ (W').cell? ⟨w.heap.size, 3, none⟩ = some (.int .i64 f1) ∧ (W').cell? ⟨w.heap.size + 1, 0, none⟩ = some (.bool n2) ∧ (W').cell? ⟨w.heap.size + 1, 1, none⟩ = some (.slice A2 m2 c2) ∧ (W').cell? ⟨w.heap.size + 1, 2, none⟩ = some (.int .i64 t2) ∧ (W').cell? ⟨w.heap.size + 1, 3, none⟩ = some (.int .i64 f2) := boxX (h.1.go hb)
theorem scX1 {tw fv : Int} (h : LiveP w W [pT (.slice A2 m2 c2) 128 N2, pT (.slice A1 m1 c1) 128 N1, pBlk (w.heap.size + 1) #[.bool n2, .slice A2 m2 c2, .int .i64 t2, .int .i64 f2] 52, pBlk w.heap.size #[.bool n1, .slice A1 m1 c1, .int .i64 t1, .int .i64 f1] 52] ∧ w.heap.size + 1 < (W).heap.size ∧ (W).cell? ⟨w.heap.size, 0, none⟩ = some (.bool n1) ∧ (W).cell? ⟨w.heap.size, 1, none⟩ = some (.slice A1 m1 c1) ∧ (W).cell? ⟨w.heap.size, 2, none⟩ = some (.int .i64 t1) ∧ (W).cell? ⟨w.heap.size, 3, none⟩ = some (.int .i64 f1) ∧ (W).cell? ⟨w.heap.size + 1, 0, none⟩ = some (.bool n2) ∧ (W).cell? ⟨w.heap.size + 1, 1, none⟩ = some (.slice A2 m2 c2) ∧ (W).cell? ⟨w.heap.size + 1, 2, none⟩ = some (.int .i64 t2) ∧ (W).cell? ⟨w.heap.size + 1, 3, none⟩ = some (.int .i64 f2)) (m : Nat) (hm : 12178 ≤ m) (h2 : tw ≤ 131072) (h5 : fv ≤ 10000) : Calls Tryz.prog 110 #[.slice A1 m1 c1, .int .i64 tw, .int .i64 fv] W fun e w' => ∃ v, e = .returned v ∧ IsT w' v m (exP N1 tw fv) ∧ Below W.heap.size W w' :=
  xscaled_any m hm tw fv (IsT.isN (h.1.get (P := pT (.slice A1 m1 c1) 128 N1) (by repeat (first | exact List.mem_cons_self | apply List.mem_cons_of_mem)))) h2 h5
theorem scX2 {tw fv : Int} (h : LiveP w W [pT (.slice A2 m2 c2) 128 N2, pT (.slice A1 m1 c1) 128 N1, pBlk (w.heap.size + 1) #[.bool n2, .slice A2 m2 c2, .int .i64 t2, .int .i64 f2] 52, pBlk w.heap.size #[.bool n1, .slice A1 m1 c1, .int .i64 t1, .int .i64 f1] 52] ∧ w.heap.size + 1 < (W).heap.size ∧ (W).cell? ⟨w.heap.size, 0, none⟩ = some (.bool n1) ∧ (W).cell? ⟨w.heap.size, 1, none⟩ = some (.slice A1 m1 c1) ∧ (W).cell? ⟨w.heap.size, 2, none⟩ = some (.int .i64 t1) ∧ (W).cell? ⟨w.heap.size, 3, none⟩ = some (.int .i64 f1) ∧ (W).cell? ⟨w.heap.size + 1, 0, none⟩ = some (.bool n2) ∧ (W).cell? ⟨w.heap.size + 1, 1, none⟩ = some (.slice A2 m2 c2) ∧ (W).cell? ⟨w.heap.size + 1, 2, none⟩ = some (.int .i64 t2) ∧ (W).cell? ⟨w.heap.size + 1, 3, none⟩ = some (.int .i64 f2)) (m : Nat) (hm : 12178 ≤ m) (h2 : tw ≤ 131072) (h5 : fv ≤ 10000) : Calls Tryz.prog 110 #[.slice A2 m2 c2, .int .i64 tw, .int .i64 fv] W fun e w' => ∃ v, e = .returned v ∧ IsT w' v m (exP N2 tw fv) ∧ Below W.heap.size W w' :=
  xscaled_any m hm tw fv (IsT.isN (h.1.get (P := pT (.slice A2 m2 c2) 128 N2) (by repeat (first | exact List.mem_cons_self | apply List.mem_cons_of_mem)))) h2 h5
theorem szX1 (h : LiveP w W [pT (.slice A2 m2 c2) 128 N2, pT (.slice A1 m1 c1) 128 N1, pBlk (w.heap.size + 1) #[.bool n2, .slice A2 m2 c2, .int .i64 t2, .int .i64 f2] 52, pBlk w.heap.size #[.bool n1, .slice A1 m1 c1, .int .i64 t1, .int .i64 f1] 52] ∧ w.heap.size + 1 < (W).heap.size ∧ (W).cell? ⟨w.heap.size, 0, none⟩ = some (.bool n1) ∧ (W).cell? ⟨w.heap.size, 1, none⟩ = some (.slice A1 m1 c1) ∧ (W).cell? ⟨w.heap.size, 2, none⟩ = some (.int .i64 t1) ∧ (W).cell? ⟨w.heap.size, 3, none⟩ = some (.int .i64 f1) ∧ (W).cell? ⟨w.heap.size + 1, 0, none⟩ = some (.bool n2) ∧ (W).cell? ⟨w.heap.size + 1, 1, none⟩ = some (.slice A2 m2 c2) ∧ (W).cell? ⟨w.heap.size + 1, 2, none⟩ = some (.int .i64 t2) ∧ (W).cell? ⟨w.heap.size + 1, 3, none⟩ = some (.int .i64 f2)) (ht : -5000 ≤ t1 ∧ t1 ≤ 5000) (hf : -5000 ≤ f1 ∧ f1 ≤ 5000) : Calls Tryz.prog 109 #[.agg #[.bool n1, .slice A1 m1 c1, .int .i64 t1, .int .i64 f1]] W fun e w' => e = .returned (.int .i64 (exS (blen N1) t1 f1)) ∧ Below W.heap.size W w' :=
  xsize_any n1 t1 f1 (h.1.get (P := pT (.slice A1 m1 c1) 128 N1) (by repeat (first | exact List.mem_cons_self | apply List.mem_cons_of_mem))) ht hf
theorem szX2 (h : LiveP w W [pT (.slice A2 m2 c2) 128 N2, pT (.slice A1 m1 c1) 128 N1, pBlk (w.heap.size + 1) #[.bool n2, .slice A2 m2 c2, .int .i64 t2, .int .i64 f2] 52, pBlk w.heap.size #[.bool n1, .slice A1 m1 c1, .int .i64 t1, .int .i64 f1] 52] ∧ w.heap.size + 1 < (W).heap.size ∧ (W).cell? ⟨w.heap.size, 0, none⟩ = some (.bool n1) ∧ (W).cell? ⟨w.heap.size, 1, none⟩ = some (.slice A1 m1 c1) ∧ (W).cell? ⟨w.heap.size, 2, none⟩ = some (.int .i64 t1) ∧ (W).cell? ⟨w.heap.size, 3, none⟩ = some (.int .i64 f1) ∧ (W).cell? ⟨w.heap.size + 1, 0, none⟩ = some (.bool n2) ∧ (W).cell? ⟨w.heap.size + 1, 1, none⟩ = some (.slice A2 m2 c2) ∧ (W).cell? ⟨w.heap.size + 1, 2, none⟩ = some (.int .i64 t2) ∧ (W).cell? ⟨w.heap.size + 1, 3, none⟩ = some (.int .i64 f2)) (ht : -5000 ≤ t2 ∧ t2 ≤ 5000) (hf : -5000 ≤ f2 ∧ f2 ≤ 5000) : Calls Tryz.prog 109 #[.agg #[.bool n2, .slice A2 m2 c2, .int .i64 t2, .int .i64 f2]] W fun e w' => e = .returned (.int .i64 (exS (blen N2) t2 f2)) ∧ Below W.heap.size W w' :=
  xsize_any n2 t2 f2 (h.1.get (P := pT (.slice A2 m2 c2) 128 N2) (by repeat (first | exact List.mem_cons_self | apply List.mem_cons_of_mem))) ht hf
theorem szX1' {s : Int} (h : LiveP w W [pT (.slice A2 m2 c2) 128 N2, pT (.slice A1 m1 c1) 128 N1, pBlk (w.heap.size + 1) #[.bool n2, .slice A2 m2 c2, .int .i64 t2, .int .i64 f2] 52, pBlk w.heap.size #[.bool n1, .slice A1 m1 c1, .int .i64 t1, .int .i64 f1] 52] ∧ w.heap.size + 1 < (W).heap.size ∧ (W).cell? ⟨w.heap.size, 0, none⟩ = some (.bool n1) ∧ (W).cell? ⟨w.heap.size, 1, none⟩ = some (.slice A1 m1 c1) ∧ (W).cell? ⟨w.heap.size, 2, none⟩ = some (.int .i64 t1) ∧ (W).cell? ⟨w.heap.size, 3, none⟩ = some (.int .i64 f1) ∧ (W).cell? ⟨w.heap.size + 1, 0, none⟩ = some (.bool n2) ∧ (W).cell? ⟨w.heap.size + 1, 1, none⟩ = some (.slice A2 m2 c2) ∧ (W).cell? ⟨w.heap.size + 1, 2, none⟩ = some (.int .i64 t2) ∧ (W).cell? ⟨w.heap.size + 1, 3, none⟩ = some (.int .i64 f2)) (ht : -5000 ≤ t1 ∧ t1 ≤ 5000) (hf : -5000 ≤ f1 ∧ f1 ≤ 5000) (hs : exS (blen N1) t1 f1 = s) : Calls Tryz.prog 109 #[.agg #[.bool n1, .slice A1 m1 c1, .int .i64 t1, .int .i64 f1]] W fun e w' => e = .returned (.int .i64 s) ∧ Below W.heap.size W w' := by
  subst hs; exact szX1 h ht hf
theorem szX2' {s : Int} (h : LiveP w W [pT (.slice A2 m2 c2) 128 N2, pT (.slice A1 m1 c1) 128 N1, pBlk (w.heap.size + 1) #[.bool n2, .slice A2 m2 c2, .int .i64 t2, .int .i64 f2] 52, pBlk w.heap.size #[.bool n1, .slice A1 m1 c1, .int .i64 t1, .int .i64 f1] 52] ∧ w.heap.size + 1 < (W).heap.size ∧ (W).cell? ⟨w.heap.size, 0, none⟩ = some (.bool n1) ∧ (W).cell? ⟨w.heap.size, 1, none⟩ = some (.slice A1 m1 c1) ∧ (W).cell? ⟨w.heap.size, 2, none⟩ = some (.int .i64 t1) ∧ (W).cell? ⟨w.heap.size, 3, none⟩ = some (.int .i64 f1) ∧ (W).cell? ⟨w.heap.size + 1, 0, none⟩ = some (.bool n2) ∧ (W).cell? ⟨w.heap.size + 1, 1, none⟩ = some (.slice A2 m2 c2) ∧ (W).cell? ⟨w.heap.size + 1, 2, none⟩ = some (.int .i64 t2) ∧ (W).cell? ⟨w.heap.size + 1, 3, none⟩ = some (.int .i64 f2)) (ht : -5000 ≤ t2 ∧ t2 ≤ 5000) (hf : -5000 ≤ f2 ∧ f2 ≤ 5000) (hs : exS (blen N2) t2 f2 = s) : Calls Tryz.prog 109 #[.agg #[.bool n2, .slice A2 m2 c2, .int .i64 t2, .int .i64 f2]] W fun e w' => e = .returned (.int .i64 s) ∧ Below W.heap.size W w' := by
  subst hs; exact szX2 h ht hf
end
theorem exS_small {b : Nat} {t f : Int} (hb : b ≤ 8192) (ht : -5000 ≤ t ∧ t ≤ 5000) (hf : -5000 ≤ f ∧ f ≤ 5000) : -30000 ≤ exS b t f ∧ exS b t f ≤ 30000 := by
  have hl := lg_tdiv f
  have h1 : lg5 f.toNat ≤ 12000 := by unfold lg5; omega
  have h2 : lg5 (-f).toNat ≤ 12000 := by unfold lg5; omega
  unfold exS
  generalize (f * 2321928095).tdiv 1000000000 = q at hl ⊢
  omega
theorem blen_small {N : Nat} (hN : N < 18446744073709551616 ^ 128) : blen N ≤ 8192 := by
  have e : (18446744073709551616 : Nat) ^ 128 = 2 ^ 8192 := by decide +kernel
  rw [blen_bl]
  exact bl_iff.2 (e ▸ hN)
theorem boxes2 (w : World) (a b : Array Value) (t : TypeId) : LiveP w ((w.alloc (.cells a t)).alloc (.cells b t)) [pBlk (w.heap.size + 1) b t, pBlk w.heap.size a t] := by
  have hb0 := (Below.refl w.heap.size w).alloc (Nat.le_refl _) (.cells a t)
  have h1 := ((LiveP.start w).go hb0).put (pBlk_st _ _ _) (pBlk_made w a t)
  have h2 := h1.go ((Below.refl _ _).alloc (Nat.le_refl _) (.cells b t))
  refine h2.put (pBlk_st _ _ _) ?_
  have := pBlk_made (w.alloc (.cells a t)) b t
  rw [show (w.alloc (.cells a t)).heap.size = w.heap.size + 1 by simp] at this
  exact this
set_option maxRecDepth 100000 in
set_option maxHeartbeats 4000000 in
theorem xcmp_any {w : World} {A1 A2 : Option Addr} {m1 m2 c1 c2 N1 N2 : Nat} (n1 n2 : Bool) (t1 t2 f1 f2 : Int) (h1 : IsT w (.slice A1 m1 c1) 128 N1) (h2 : IsT w (.slice A2 m2 c2) 128 N2)
    (ht1 : -5000 ≤ t1 ∧ t1 ≤ 5000) (ht2 : -5000 ≤ t2 ∧ t2 ≤ 5000) (hf1 : -5000 ≤ f1 ∧ f1 ≤ 5000) (hf2 : -5000 ≤ f2 ∧ f2 ≤ 5000) :
    Calls Tryz.prog 67 #[.agg #[.bool n1, .slice A1 m1 c1, .int .i64 t1, .int .i64 f1], .agg #[.bool n2, .slice A2 m2 c2, .int .i64 t2, .int .i64 f2]] w fun e w' => e = .returned (.int .i64 (exC N1 t1 f1 N2 t2 f2)) ∧ Below w.heap.size w w' := by
  have hb0 : Below w.heap.size w ((w.alloc (.cells #[.bool n1, .slice A1 m1 c1, .int .i64 t1, .int .i64 f1] 52)).alloc (.cells #[.bool n2, .slice A2 m2 c2, .int .i64 t2, .int .i64 f2] 52)) := ((Below.refl _ _).alloc (Nat.le_refl _) _).alloc (by simp) _
  have hL := ((boxes2 w #[.bool n1, .slice A1 m1 c1, .int .i64 t1, .int .i64 f1] #[.bool n2, .slice A2 m2 c2, .int .i64 t2, .int .i64 f2] 52).put (pT_st (.slice A1 m1 c1) 128 N1) (h1.below hb0)).put (pT_st (.slice A2 m2 c2) 128 N2) (h2.below hb0)
  have hS := boxX hL
  obtain ⟨-, hlt, d0, d1, d2, d3, e0, e1, e2, e3⟩ := id hS
  by_cases hz : N1 = 0 ∨ N2 = 0
  · have hC : exC N1 t1 f1 N2 t2 f2 = cmpV (N1 : Int) (N2 : Int) := by
      rcases hz with rfl | rfl
      · exact exC_zero_l
      · exact exC_zero_r
    rw [hC]
    have hcm := Lib.hid (cmp_t (IsT.isN (hL.get (P := pT (.slice A1 m1 c1) 128 N1) (by repeat (first | exact List.mem_cons_self | apply List.mem_cons_of_mem)))) (IsT.isN (hL.get (P := pT (.slice A2 m2 c2) 128 N2) (by repeat (first | exact List.mem_cons_self | apply List.mem_cons_of_mem)))) (by decide) (by decide))
    have hml : (m1 = 0 ∨ (0 < m1 ∧ m2 = 0)) := by
      rcases isT_zero h1 with ⟨a, b⟩ | ⟨a, b⟩
      · exact .inl a
      · rcases isT_zero h2 with ⟨c, d⟩ | ⟨c, d⟩
        · exact .inr ⟨a, c⟩
        · omega
    clear hC hz hL hS
    rcases hml with rfl | ⟨hm, rfl⟩
    all_goals
      go_enter Tryz.func67, Tryz.ntmps67
      go_wp2_with fail
      refine hcm.out.mono ?_
      rintro e w1 ⟨rfl, hb1⟩
      go_wp2
      go_ret
      exact ⟨rfl, hb0.trans (hb1.mono (by simp; omega))⟩
  · have hN1 : 0 < N1 := by omega
    have hN2 : 0 < N2 := by omega
    have hm1 : 0 < m1 := by rcases isT_zero h1 with ⟨a, b⟩ | ⟨a, b⟩ <;> omega
    have hm2 : 0 < m2 := by rcases isT_zero h2 with ⟨a, b⟩ | ⟨a, b⟩ <;> omega
    obtain ⟨p1, p2⟩ := blen_bnd hN1
    obtain ⟨q1, q2⟩ := blen_bnd hN2
    have fgt := Lib.hid (fun h => exC_far_gt (t1 := t1) (t2 := t2) p1 p2 q1 q2 hf1 hf2 ⟨by omega, by omega⟩ ⟨by omega, by omega⟩ h)
    have flt := Lib.hid (fun h => exC_far_lt (t1 := t1) (t2 := t2) p1 p2 q1 q2 hf1 hf2 ⟨by omega, by omega⟩ ⟨by omega, by omega⟩ h)
    have hsc := Lib.hid (exC_scaled N1 t1 f1 N2 t2 f2)
    have hsb := exS_small (b := blen N1) (t := t1) (f := f1) (blen_small h1.isN.lt) ht1 hf1
    have hsb' := exS_small (b := blen N2) (t := t2) (f := f2) (blen_small h2.isN.lt) ht2 hf2
    have hS0 := boxX (hL.go (Below.refl _ _).drew)
    clear p1 p2 q1 q2 hz hN1 hN2 h1 h2 hS
    obtain ⟨s1, hs1⟩ : ∃ s, exS (blen N1) t1 f1 = s := ⟨_, rfl⟩
    obtain ⟨s2, hs2⟩ : ∃ s, exS (blen N2) t2 f2 = s := ⟨_, rfl⟩
    rw [hs1, hs2] at fgt flt
    rw [hs1] at hsb
    rw [hs2] at hsb'
    replace hs1 := Lib.hid hs1
    replace hs2 := Lib.hid hs2
    replace ht1 := Lib.hid ht1
    replace ht2 := Lib.hid ht2
    replace hf1 := Lib.hid hf1
    replace hf2 := Lib.hid hf2
    obtain ⟨hsb1, hsb2⟩ := hsb
    obtain ⟨hsb3, hsb4⟩ := hsb'
    have hm1' : ((m1 : Int) == 0) = false := by simp; omega
    have hm2' : ((m2 : Int) == 0) = false := by simp; omega
    have hCs : 6 < s1 - s2 ∨ s1 - s2 < -6 ∨ (¬ 6 < s1 - s2 ∧ ¬ s1 - s2 < -6) := by omega
    have hwr : IntKind.i64.wrap (s1 - s2) = s1 - s2 := by rw [IntKind.wrap_i64]; omega
    rcases hCs with hc | hc | ⟨hc, hc'⟩
    · rw [fgt.out hc]
      clear fgt flt hsc
      go_enter Tryz.func67, Tryz.ntmps67
      go_wp2_with fail
      go_region_held3 (fun w' => LiveP w w' [pT (.slice A2 m2 c2) 128 N2, pT (.slice A1 m1 c1) 128 N1, pBlk (w.heap.size + 1) #[.bool n2, .slice A2 m2 c2, .int .i64 t2, .int .i64 f2] 52, pBlk w.heap.size #[.bool n1, .slice A1 m1 c1, .int .i64 t1, .int .i64 f1] 52] ∧ w.heap.size + 1 < (w').heap.size ∧ (w').cell? ⟨w.heap.size, 0, none⟩ = some (.bool n1) ∧ (w').cell? ⟨w.heap.size, 1, none⟩ = some (.slice A1 m1 c1) ∧ (w').cell? ⟨w.heap.size, 2, none⟩ = some (.int .i64 t1) ∧ (w').cell? ⟨w.heap.size, 3, none⟩ = some (.int .i64 f1) ∧ (w').cell? ⟨w.heap.size + 1, 0, none⟩ = some (.bool n2) ∧ (w').cell? ⟨w.heap.size + 1, 1, none⟩ = some (.slice A2 m2 c2) ∧ (w').cell? ⟨w.heap.size + 1, 2, none⟩ = some (.int .i64 t2) ∧ (w').cell? ⟨w.heap.size + 1, 3, none⟩ = some (.int .i64 f2)) (first | exact hS0 | with_reducible assumption | exact keepX (by with_reducible assumption) (by with_reducible assumption))
        (first
          | (go_at_call 109; with_reducible refine (szX1' (by with_reducible assumption) ht1.out hf1.out hs1.out).mono ?_; rintro e w4 ⟨rfl, hb4⟩)
          | (go_at_call 109; with_reducible refine (szX2' (by with_reducible assumption) ht2.out hf2.out hs2.out).mono ?_; rintro e w5 ⟨rfl, hb5⟩))
      have hq : LiveP w w5 [pT (.slice A2 m2 c2) 128 N2, pT (.slice A1 m1 c1) 128 N1, pBlk (w.heap.size + 1) #[.bool n2, .slice A2 m2 c2, .int .i64 t2, .int .i64 f2] 52, pBlk w.heap.size #[.bool n1, .slice A1 m1 c1, .int .i64 t1, .int .i64 f1] 52] ∧ w.heap.size + 1 < (w5).heap.size ∧ (w5).cell? ⟨w.heap.size, 0, none⟩ = some (.bool n1) ∧ (w5).cell? ⟨w.heap.size, 1, none⟩ = some (.slice A1 m1 c1) ∧ (w5).cell? ⟨w.heap.size, 2, none⟩ = some (.int .i64 t1) ∧ (w5).cell? ⟨w.heap.size, 3, none⟩ = some (.int .i64 f1) ∧ (w5).cell? ⟨w.heap.size + 1, 0, none⟩ = some (.bool n2) ∧ (w5).cell? ⟨w.heap.size + 1, 1, none⟩ = some (.slice A2 m2 c2) ∧ (w5).cell? ⟨w.heap.size + 1, 2, none⟩ = some (.int .i64 t2) ∧ (w5).cell? ⟨w.heap.size + 1, 3, none⟩ = some (.int .i64 f2) := by with_reducible assumption
      go_wp2
      go_ret
      exact ⟨rfl, hq.1.below⟩
    · rw [flt.out hc]
      clear fgt flt hsc
      go_enter Tryz.func67, Tryz.ntmps67
      go_wp2_with fail
      go_region_held3 (fun w' => LiveP w w' [pT (.slice A2 m2 c2) 128 N2, pT (.slice A1 m1 c1) 128 N1, pBlk (w.heap.size + 1) #[.bool n2, .slice A2 m2 c2, .int .i64 t2, .int .i64 f2] 52, pBlk w.heap.size #[.bool n1, .slice A1 m1 c1, .int .i64 t1, .int .i64 f1] 52] ∧ w.heap.size + 1 < (w').heap.size ∧ (w').cell? ⟨w.heap.size, 0, none⟩ = some (.bool n1) ∧ (w').cell? ⟨w.heap.size, 1, none⟩ = some (.slice A1 m1 c1) ∧ (w').cell? ⟨w.heap.size, 2, none⟩ = some (.int .i64 t1) ∧ (w').cell? ⟨w.heap.size, 3, none⟩ = some (.int .i64 f1) ∧ (w').cell? ⟨w.heap.size + 1, 0, none⟩ = some (.bool n2) ∧ (w').cell? ⟨w.heap.size + 1, 1, none⟩ = some (.slice A2 m2 c2) ∧ (w').cell? ⟨w.heap.size + 1, 2, none⟩ = some (.int .i64 t2) ∧ (w').cell? ⟨w.heap.size + 1, 3, none⟩ = some (.int .i64 f2)) (first | exact hS0 | with_reducible assumption | exact keepX (by with_reducible assumption) (by with_reducible assumption))
        (first
          | (go_at_call 109; with_reducible refine (szX1' (by with_reducible assumption) ht1.out hf1.out hs1.out).mono ?_; rintro e w4 ⟨rfl, hb4⟩)
          | (go_at_call 109; with_reducible refine (szX2' (by with_reducible assumption) ht2.out hf2.out hs2.out).mono ?_; rintro e w5 ⟨rfl, hb5⟩))
      have hq : LiveP w w5 [pT (.slice A2 m2 c2) 128 N2, pT (.slice A1 m1 c1) 128 N1, pBlk (w.heap.size + 1) #[.bool n2, .slice A2 m2 c2, .int .i64 t2, .int .i64 f2] 52, pBlk w.heap.size #[.bool n1, .slice A1 m1 c1, .int .i64 t1, .int .i64 f1] 52] ∧ w.heap.size + 1 < (w5).heap.size ∧ (w5).cell? ⟨w.heap.size, 0, none⟩ = some (.bool n1) ∧ (w5).cell? ⟨w.heap.size, 1, none⟩ = some (.slice A1 m1 c1) ∧ (w5).cell? ⟨w.heap.size, 2, none⟩ = some (.int .i64 t1) ∧ (w5).cell? ⟨w.heap.size, 3, none⟩ = some (.int .i64 f1) ∧ (w5).cell? ⟨w.heap.size + 1, 0, none⟩ = some (.bool n2) ∧ (w5).cell? ⟨w.heap.size + 1, 1, none⟩ = some (.slice A2 m2 c2) ∧ (w5).cell? ⟨w.heap.size + 1, 2, none⟩ = some (.int .i64 t2) ∧ (w5).cell? ⟨w.heap.size + 1, 3, none⟩ = some (.int .i64 f2) := by with_reducible assumption
      go_wp2
      go_ret
      exact ⟨rfl, hq.1.below⟩
    · rw [← hsc.out]
      clear fgt flt
      obtain ⟨m, hm⟩ : ∃ m : Nat, m = 12178 := ⟨_, rfl⟩
      have hm1 : 12178 ≤ m := by omega
      have hm2 : m ≤ 1048576 := by omega
      have hk1 : t1 - t2 ≤ 131072 := by have := ht1.out; have := ht2.out; omega
      have hk2 : f1 - f2 ≤ 10000 := by have := hf1.out; have := hf2.out; omega
      have hk3 : t2 - t1 ≤ 131072 := by have := ht1.out; have := ht2.out; omega
      have hk4 : f2 - f1 ≤ 10000 := by have := hf1.out; have := hf2.out; omega
      have hr1 : -131072 ≤ t1 - t2 := by have := ht1.out; have := ht2.out; omega
      have hr2 : -10000 ≤ f1 - f2 := by have := hf1.out; have := hf2.out; omega
      clear hm
      have hcmp := Lib.hid fun (W : World) (v1 v2 : Value) (h1 : IsT W v1 m (exP N1 (t1 - t2) (f1 - f2))) (h2 : IsT W v2 m (exP N2 (t2 - t1) (f2 - f1))) => cmp_t (IsT.isN h1) (IsT.isN h2) hm2 hm2
      go_enter Tryz.func67, Tryz.ntmps67
      go_wp2_with fail
      go_region_held3 (fun w' => LiveP w w' [pT (.slice A2 m2 c2) 128 N2, pT (.slice A1 m1 c1) 128 N1, pBlk (w.heap.size + 1) #[.bool n2, .slice A2 m2 c2, .int .i64 t2, .int .i64 f2] 52, pBlk w.heap.size #[.bool n1, .slice A1 m1 c1, .int .i64 t1, .int .i64 f1] 52] ∧ w.heap.size + 1 < (w').heap.size ∧ (w').cell? ⟨w.heap.size, 0, none⟩ = some (.bool n1) ∧ (w').cell? ⟨w.heap.size, 1, none⟩ = some (.slice A1 m1 c1) ∧ (w').cell? ⟨w.heap.size, 2, none⟩ = some (.int .i64 t1) ∧ (w').cell? ⟨w.heap.size, 3, none⟩ = some (.int .i64 f1) ∧ (w').cell? ⟨w.heap.size + 1, 0, none⟩ = some (.bool n2) ∧ (w').cell? ⟨w.heap.size + 1, 1, none⟩ = some (.slice A2 m2 c2) ∧ (w').cell? ⟨w.heap.size + 1, 2, none⟩ = some (.int .i64 t2) ∧ (w').cell? ⟨w.heap.size + 1, 3, none⟩ = some (.int .i64 f2)) (first | exact hS0 | with_reducible assumption | exact keepX (by with_reducible assumption) (by with_reducible assumption))
        (first
          | (go_at_call 109; with_reducible refine (szX1' (by with_reducible assumption) ht1.out hf1.out hs1.out).mono ?_; rintro e w4 ⟨rfl, hb4⟩)
          | (go_at_call 109; with_reducible refine (szX2' (by with_reducible assumption) ht2.out hf2.out hs2.out).mono ?_; rintro e w5 ⟨rfl, hb5⟩))
      have hq : LiveP w w5 [pT (.slice A2 m2 c2) 128 N2, pT (.slice A1 m1 c1) 128 N1, pBlk (w.heap.size + 1) #[.bool n2, .slice A2 m2 c2, .int .i64 t2, .int .i64 f2] 52, pBlk w.heap.size #[.bool n1, .slice A1 m1 c1, .int .i64 t1, .int .i64 f1] 52] ∧ w.heap.size + 1 < (w5).heap.size ∧ (w5).cell? ⟨w.heap.size, 0, none⟩ = some (.bool n1) ∧ (w5).cell? ⟨w.heap.size, 1, none⟩ = some (.slice A1 m1 c1) ∧ (w5).cell? ⟨w.heap.size, 2, none⟩ = some (.int .i64 t1) ∧ (w5).cell? ⟨w.heap.size, 3, none⟩ = some (.int .i64 f1) ∧ (w5).cell? ⟨w.heap.size + 1, 0, none⟩ = some (.bool n2) ∧ (w5).cell? ⟨w.heap.size + 1, 1, none⟩ = some (.slice A2 m2 c2) ∧ (w5).cell? ⟨w.heap.size + 1, 2, none⟩ = some (.int .i64 t2) ∧ (w5).cell? ⟨w.heap.size + 1, 3, none⟩ = some (.int .i64 f2) := by with_reducible assumption
      clear hS0 hlt d0 d1 d2 d3 e0 e1 e2 e3
      obtain ⟨hLq, hlt, d0, d1, d2, d3, e0, e1, e2, e3⟩ := id hq
      go_wp2_with fail
      go_quiet (fail)
      have hL0 : LiveP w (w5.drewN nq) [pT (.slice A2 m2 c2) 128 N2, pT (.slice A1 m1 c1) 128 N1, pBlk (w.heap.size + 1) #[.bool n2, .slice A2 m2 c2, .int .i64 t2, .int .i64 f2] 52, pBlk w.heap.size #[.bool n1, .slice A1 m1 c1, .int .i64 t1, .int .i64 f1] 52] := hLq.go ⟨rfl, rfl, rfl, Nat.le_refl _, fun _ _ => rfl⟩
      clear hlt d0 d1 d2 d3 e0 e1 e2 e3
      obtain ⟨W0, hW0⟩ : ∃ W0, w5.drewN nq = W0 := ⟨_, rfl⟩
      rw [hW0] at hL0 ⊢
      clear hW0
      obtain ⟨-, hlt, d0, d1, d2, d3, e0, e1, e2, e3⟩ := boxX hL0
      have hS1 := boxX (hL0.go (Below.refl _ _).drew)
      have hwt := Lib.hid (show IntKind.i64.wrap (t2 - t1) = t2 - t1 by rw [IntKind.wrap_i64]; omega)
      have hwf := Lib.hid (show IntKind.i64.wrap (f2 - f1) = f2 - f1 by rw [IntKind.wrap_i64]; omega)
      have hwt' := Lib.hid (show IntKind.i64.wrap (-(t1 - t2)) = t2 - t1 by rw [IntKind.wrap_i64]; omega)
      have hwf' := Lib.hid (show IntKind.i64.wrap (-(f1 - f2)) = f2 - f1 by rw [IntKind.wrap_i64]; omega)
      clear hq hLq
      go_wp2_with fail
      go_region_held3 (fun w' => LiveP w w' [pT (.slice A2 m2 c2) 128 N2, pT (.slice A1 m1 c1) 128 N1, pBlk (w.heap.size + 1) #[.bool n2, .slice A2 m2 c2, .int .i64 t2, .int .i64 f2] 52, pBlk w.heap.size #[.bool n1, .slice A1 m1 c1, .int .i64 t1, .int .i64 f1] 52] ∧ w.heap.size + 1 < (w').heap.size ∧ (w').cell? ⟨w.heap.size, 0, none⟩ = some (.bool n1) ∧ (w').cell? ⟨w.heap.size, 1, none⟩ = some (.slice A1 m1 c1) ∧ (w').cell? ⟨w.heap.size, 2, none⟩ = some (.int .i64 t1) ∧ (w').cell? ⟨w.heap.size, 3, none⟩ = some (.int .i64 f1) ∧ (w').cell? ⟨w.heap.size + 1, 0, none⟩ = some (.bool n2) ∧ (w').cell? ⟨w.heap.size + 1, 1, none⟩ = some (.slice A2 m2 c2) ∧ (w').cell? ⟨w.heap.size + 1, 2, none⟩ = some (.int .i64 t2) ∧ (w').cell? ⟨w.heap.size + 1, 3, none⟩ = some (.int .i64 f2)) (first | exact hS1 | with_reducible assumption | exact keepX (by with_reducible assumption) (by with_reducible assumption))
        (first
          | (go_at_call 110; with_reducible refine (scX1 (by with_reducible assumption) m hm1 hk1 hk2).mono ?_; rintro e w6 ⟨v6, rfl, hv6, hb6⟩)
          | (go_at_call 110; (try rw [hwt.out]); (try rw [hwf.out]); (try rw [hwt'.out]); (try rw [hwf'.out]); with_reducible refine (scX2 (by with_reducible assumption) m hm1 hk3 hk4).mono ?_; rintro e w7 ⟨v7, rfl, hv7, hb7⟩)
          | (go_at_call 56; with_reducible refine (hcmp.out _ _ _ (hv6.below (by with_reducible assumption)) hv7).mono ?_; rintro e w8 ⟨rfl, hb8⟩))
      go_wp2
      go_ret
      refine ⟨rfl, ?_⟩
      have hq8 : LiveP w w8 [pT (.slice A2 m2 c2) 128 N2, pT (.slice A1 m1 c1) 128 N1, pBlk (w.heap.size + 1) #[.bool n2, .slice A2 m2 c2, .int .i64 t2, .int .i64 f2] 52, pBlk w.heap.size #[.bool n1, .slice A1 m1 c1, .int .i64 t1, .int .i64 f1] 52] ∧ w.heap.size + 1 < (w8).heap.size ∧ (w8).cell? ⟨w.heap.size, 0, none⟩ = some (.bool n1) ∧ (w8).cell? ⟨w.heap.size, 1, none⟩ = some (.slice A1 m1 c1) ∧ (w8).cell? ⟨w.heap.size, 2, none⟩ = some (.int .i64 t1) ∧ (w8).cell? ⟨w.heap.size, 3, none⟩ = some (.int .i64 f1) ∧ (w8).cell? ⟨w.heap.size + 1, 0, none⟩ = some (.bool n2) ∧ (w8).cell? ⟨w.heap.size + 1, 1, none⟩ = some (.slice A2 m2 c2) ∧ (w8).cell? ⟨w.heap.size + 1, 2, none⟩ = some (.int .i64 t2) ∧ (w8).cell? ⟨w.heap.size + 1, 3, none⟩ = some (.int .i64 f2) := by with_reducible assumption
      exact hq8.1.below
end Go.Proofs.YtehpneojiinmdaaGreatDoor
namespace Go.Proofs.YtehpneojiinmdaaGreatDoor
open Go.RowKit Go.Cal
theorem nof_x (w : World) (m : Nat) (hm : m < 18446744073709551616) : Calls Tryz.prog 17 #[.int .u64 m] w fun e w' => ∃ A n c, e = .returned (.slice A n c) ∧ IsT w' (.slice A n c) 128 m ∧ Below w.heap.size w w' := by
  refine (of_t w m hm).mono ?_
  rintro e w' ⟨v, rfl, hv, hb⟩
  have hv' : IsT w' v 128 m := by
    obtain ⟨A, c, zs, h1, h2, h3, h4, h5, h6⟩ := hv
    exact ⟨A, c, zs, h1, h2, h3, h4, by omega, h6⟩
  obtain ⟨A, c, zs, rfl, -⟩ := id hv'
  exact ⟨A, _, c, rfl, hv', hb⟩
set_option maxRecDepth 100000 in
set_option maxHeartbeats 1000000 in
theorem xof_fin (neg : Bool) (m : Nat) (t : Int) (hm : m < 18446744073709551616) (ht : -5000 ≤ t ∧ t ≤ 5000) (w : World) :
    Calls Tryz.prog 94 #[.agg #[.int .i64 2, .bool neg, .int .u64 m, .int .i64 t]] w fun e w' => ∃ A n c, e = .returned (.tuple #[.agg #[.bool neg, .slice A n c, .int .i64 t, .int .i64 0], .bool true]) ∧ IsT w' (.slice A n c) 128 m ∧ Below w.heap.size w w' := by
  obtain ⟨ht1, ht2⟩ := ht
  have hb0 : Below w.heap.size w ((w.alloc (.cells #[.int .i64 2, .bool neg, .int .u64 m, .int .i64 t] 31)).alloc (.cells #[.bool false, .slice none 0 0, .int .i64 0, .int .i64 0] 52)) := ((Below.refl _ _).alloc (Nat.le_refl _) _).alloc (by simp) _
  have hof := Lib.hid fun w' => nof_x w' m hm
  go_enter Tryz.func94, Tryz.ntmps94
  go_wp2_with fail
  refine (xin_yes t ht1 ht2 _).mono ?_
  rintro e w1 ⟨rfl, rfl⟩
  go_wp2_with fail
  have hp1 : pBlk (w.heap.size + 1) #[.bool false, .slice none 0 0, .int .i64 0, .int .i64 0] 52 ((w.alloc (.cells #[.int .i64 2, .bool neg, .int .u64 m, .int .i64 t] 31)).alloc (.cells #[.bool false, .slice none 0 0, .int .i64 0, .int .i64 0] 52)).drew := by
    have := pBlk_st _ _ _ _ _ (pBlk_made (w.alloc (.cells #[.int .i64 2, .bool neg, .int .u64 m, .int .i64 t] 31)) #[.bool false, .slice none 0 0, .int .i64 0, .int .i64 0] 52) (Below.refl _ _).drew
    rw [show (w.alloc (.cells #[.int .i64 2, .bool neg, .int .u64 m, .int .i64 t] 31)).heap.size = w.heap.size + 1 by simp] at this
    exact this
  have hp0 := pBlk_st _ _ _ _ _ (pBlk_st _ _ _ _ _ (pBlk_made w #[.int .i64 2, .bool neg, .int .u64 m, .int .i64 t] 31) ((Below.refl _ _).alloc (Nat.le_refl _) (.cells #[.bool false, .slice none 0 0, .int .i64 0, .int .i64 0] 52))) (Below.refl _ _).drew
  go_region_with (go_at_call 17; refine (hof.out _).mono ?_; rintro e w2 ⟨A, n, c, rfl, hv2, hb2⟩; obtain ⟨hc2, hf2⟩ := bcell hb2)
  all_goals
    have hp2 := pBlk_st _ _ _ _ _ hp1 hb2
    have hBw : Below w.heap.size w w2 := hb0.trans ((Below.refl _ _).drew.trans (hb2.mono (by simp; omega)))
    obtain ⟨g, hg⟩ : ∃ g, w.heap.size + 1 = g := ⟨_, rfl⟩
    have hgl : w.heap.size ≤ g := by omega
    rw [hg] at hp2 ⊢
    have hno : ∀ (a b c d : Value), (∀ n, a ≠ .int .u64 n) → (∀ n, b ≠ .int .u64 n) → (∀ n, c ≠ .int .u64 n) → (∀ n, d ≠ .int .u64 n) → ∀ x ∈ (#[a, b, c, d] : Array Value).toList, ∀ n, x ≠ .int .u64 n := by
      intro a b c d ha hb hc hd x hx
      simp at hx
      rcases hx with rfl | rfl | rfl | rfl <;> assumption
    have hvf := IsT.apartX (i := 3) (u := .int .i64 0) (IsT.apartX (i := 2) (u := .int .i64 t) (IsT.apartX (i := 1) (u := .slice A n c) (IsT.apartX (i := 0) (u := .bool neg) hv2 hp2 (hno _ _ _ _ (by simp) (by simp) (by simp) (by simp))) (hp2.setX 0 (.bool neg)) (hno _ _ _ _ (by simp) (by simp) (by simp) (by simp))) ((hp2.setX 0 (.bool neg)).setX 1 (.slice A n c)) (hno _ _ _ _ (by simp) (by simp) (by simp) (by simp))) (((hp2.setX 0 (.bool neg)).setX 1 (.slice A n c)).setX 2 (.int .i64 t)) (hno _ _ _ _ (by simp) (by simp) (by simp) (by simp))
    have hpf := (((hp2.setX 0 (.bool neg)).setX 1 (.slice A n c)).setX 2 (.int .i64 t)).setX 3 (.int .i64 0)
    have hBf : Below w.heap.size w ((((w2.setCell ⟨g, 0, none⟩ (.bool neg)).setCell ⟨g, 1, none⟩ (.slice A n c)).setCell ⟨g, 2, none⟩ (.int .i64 t)).setCell ⟨g, 3, none⟩ (.int .i64 0)) :=
      (((hBw.setCell (p := ⟨g, 0, none⟩) hgl _).setCell (p := ⟨g, 1, none⟩) hgl _).setCell (p := ⟨g, 2, none⟩) hgl _).setCell (p := ⟨g, 3, none⟩) hgl _
    generalize ((((w2.setCell ⟨g, 0, none⟩ (.bool neg)).setCell ⟨g, 1, none⟩ (.slice A n c)).setCell ⟨g, 2, none⟩ (.int .i64 t)).setCell ⟨g, 3, none⟩ (.int .i64 0)) = w3 at hvf hpf hBf ⊢
    have y0 := pBlk.cell hpf 0 (.bool neg) rfl
    have y1 := pBlk.cell hpf 1 (.slice A n c) rfl
    have y2 := pBlk.cell hpf 2 (.int .i64 t) rfl
    have y3 := pBlk.cell hpf 3 (.int .i64 0) rfl
    clear hpf hno hp2 hc2 hf2 hp1 hp0 hv2 hb2 hBw
    go_wp2
    exact bodyPost_ret (v := .tuple #[.agg #[.bool neg, .slice A n c, .int .i64 t, .int .i64 0], .bool true]) (by simp [results, Tryz.results94, go_sem, y0, y1, y2, y3]) rfl ⟨A, n, c, rfl, hvf, hBf⟩
end Go.Proofs.YtehpneojiinmdaaGreatDoor
namespace Go.Proofs.YtehpneojiinmdaaGreatDoor
open Go.RowKit Go.Cal
theorem exact_size : (Tryz.prog.info? 52).map (·.size) = some 4 := by kernel_rfl
theorem cells4 {w : World} {g : Nat} {a b c d : Value} {t : TypeId} (hp : pBlk g #[a, b, c, d] t w) :
    w.cell? ⟨g, 0, none⟩ = some a ∧ w.cell? ⟨g, 1, none⟩ = some b ∧ w.cell? ⟨g, 2, none⟩ = some c ∧ w.cell? ⟨g, 3, none⟩ = some d :=
  ⟨hp.cell 0 _ rfl, hp.cell 1 _ rfl, hp.cell 2 _ rfl, hp.cell 3 _ rfl⟩
theorem noU : ∀ x ∈ (#[.bool false, .slice none 0 0, .int .i64 0, .int .i64 0] : Array Value).toList, ∀ n, x ≠ .int .u64 n := by simp
set_option maxRecDepth 100000 in
set_option maxHeartbeats 1000000 in
theorem rsize_any (m : Nat) (t : Int) (h0 : 0 < m) (hm : m < 18446744073709551616) (ht : -5000 ≤ t ∧ t ≤ 5000) (w : World) :
    Calls Tryz.prog 174 #[.int .u64 m, .int .i64 t] w fun e w' => ∃ A n c, e = .returned (.agg #[.bool false, .slice A n c, .int .i64 t, .int .i64 0]) ∧ IsT w' (.slice A n c) 128 m ∧ Below w.heap.size w w' := by
  have hof := Lib.hid fun w' => xof_fin false m t hm ht w'
  have hm0 : ((m : Int) == 0) = false := by simp; omega
  go_enter Tryz.func174, Tryz.ntmps174
  go_wp2_with fail
  refine (hof.out _).mono ?_
  rintro e w1 ⟨A, n, c, rfl, hv, hb⟩
  have hz := hb.size
  simp at hz
  have hB : Below w.heap.size w w1 := ((Below.refl _ _).alloc (Nat.le_refl _) _).trans (hb.mono (by simp))
  have hp0 := pBlk_st _ _ _ _ _ (pBlk_st _ _ _ _ _ (pBlk_made w #[.bool false, .slice none 0 0, .int .i64 0, .int .i64 0] 52) hb) ((Below.refl _ _).alloc (Nat.le_refl _) (.cells #[.bool false, .slice none 0 0, .int .i64 0, .int .i64 0] 52))
  have hv0 := hv.below ((Below.refl _ _).alloc (Nat.le_refl _) (.cells #[.bool false, .slice none 0 0, .int .i64 0, .int .i64 0] 52))
  go_wp2_with (first
    | ((with_reducible show wpList _ _ _ (Oper.mk _ (Op.store 52 _ _) _ _ _ _ :: _) _ _); refine wpList_store_keep _ rfl 52 _ _ rfl w1.heap.size #[.bool false, .slice A n c, .int .i64 t, .int .i64 0] #[.bool false, .slice none 0 0, .int .i64 0, .int .i64 0] 52 rfl rfl (pBlk_made w1 #[.bool false, .slice none 0 0, .int .i64 0, .int .i64 0] 52) exact_size rfl (by simp [Value.oneCell']) noU ?_; intro w2 hp2 hb2 hk2; obtain ⟨r0, r1, r2, r3⟩ := cells4 hp2; have hq := pBlk_keep hp0 hb2 (by omega); have hv2 := hk2 _ _ _ hv0)
    | ((with_reducible show wpList _ _ _ (Oper.mk _ (Op.store 52 _ _) _ _ _ _ :: _) _ _); refine wpList_store_keep _ rfl 52 _ _ rfl w.heap.size #[.bool false, .slice A n c, .int .i64 t, .int .i64 0] #[.bool false, .slice none 0 0, .int .i64 0, .int .i64 0] 52 rfl rfl hq exact_size rfl (by simp [Value.oneCell']) noU ?_; intro w3 hp3 hb3 hk3; obtain ⟨s0, s1, s2, s3⟩ := cells4 hp3; have hv3 := hk3 _ _ _ hv2))
  have hB3 : Below w.heap.size w w3 := ((hB.alloc hB.size _).trans (hb2.mono hB.size)).trans hb3
  exact bodyPost_ret (v := .agg #[.bool false, .slice A n c, .int .i64 t, .int .i64 0]) (by simp [results, Tryz.results174, go_sem, s0, s1, s2, s3]) rfl ⟨A, n, c, rfl, hv3, hB3⟩
theorem numQ_bnd {kd wd mn bs j more : Nat} (hm : more ≤ 1) (h0 : 0 < j) (hj : j < 18446744073709551616) (hw : kd = 1 → wd + more - 1 ≤ 64 ∧ j < 2 ^ (wd + more - 1)) (hn : mn ≤ 52) (h2 : kd = 2 → j / 2 ^ (mn + more) ≤ 4095) (h4 : kd ≠ 1 → kd ≠ 2 → kd ≠ 3 → j < 4000) :
    0 < (numQ kd wd mn bs more j).1 ∧ (numQ kd wd mn bs more j).1 < 18446744073709551616 ∧ (numQ kd wd mn bs more j).2 ≤ 4200 := by
  unfold numQ
  by_cases k1 : kd = 1
  · rw [if_pos k1]
    obtain ⟨a, b⟩ := hw k1
    obtain ⟨f1, f2⟩ := poF_bnd (poL (wd + more - 1) j) (j % 2 ^ poL (wd + more - 1) j)
    have hL := poL_le b
    have hR := poR_ge b
    have hE := poE_lt (Nat.mod_lt j (Nat.two_pow_pos (poL (wd + more - 1) j)))
    have hp := Nat.two_pow_pos (poL (wd + more - 1) j - 2)
    have hp2 : 2 ^ (poL (wd + more - 1) j - 2) ≤ 2 ^ 62 := Nat.pow_le_pow_right (by decide) (by omega)
    refine ⟨by simp only; omega, by simp only; omega, by simp only; omega⟩
  · rw [if_neg k1]
    by_cases k2 : kd = 2
    · rw [if_pos k2]
      have hM := miM_lt (mn + more) j
      have hP := miM_pos (man := mn + more) h0
      have hp2 : 2 ^ (mn + more + 1) ≤ 2 ^ 54 := Nat.pow_le_pow_right (by decide) (by omega)
      have hE : miE (mn + more) j = max (j / 2 ^ (mn + more)) 1 := rfl
      have := h2 k2
      refine ⟨by simp only; omega, by simp only; omega, by simp only; omega⟩
    · rw [if_neg k2]
      by_cases k3 : kd = 3
      · rw [if_pos k3]
        refine ⟨h0, hj, by simp only; omega⟩
      · rw [if_neg k3]
        have := h4 k1 k2 k3
        have hd : j / 2 ^ more ≤ j := Nat.div_le_self _ _
        refine ⟨by simp only; omega, by simp only; omega, ?_⟩
        simp only
        generalize j / 2 ^ more = q at hd ⊢
        omega
theorem oddP_bnd {m : Nat} {e : Int} (h0 : 0 < m) (hm : m < 18446744073709551616) : 0 < (oddP 64 m e).1 ∧ (oddP 64 m e).1 < 18446744073709551616 ∧ e ≤ (oddP 64 m e).2 ∧ (oddP 64 m e).2 ≤ e + 64 := by
  have h1 := tzN_lt 64 m h0 (by omega)
  have h2 := tzN_div 64 m
  unfold oddP
  rw [if_neg (by omega)]
  refine ⟨?_, ?_, by simp only; omega, by simp only; omega⟩
  · rcases Nat.eq_zero_or_pos (m / 2 ^ tzN 64 m) with h3 | h3
    · rw [h3] at h2; omega
    · exact h3
  · exact Nat.lt_of_le_of_lt (Nat.div_le_self _ _) hm
theorem fK_nat (id : Int) : (fK id).toNat = 1 ∧ fK id = 1 ∨ (fK id).toNat = 2 ∧ fK id = 2 ∨ (fK id).toNat = 3 ∧ fK id = 3 ∨ (fK id).toNat = 4 ∧ fK id = 4 := by
  have := fK_bnd id
  omega
theorem scale_top {id : Int} (h1 : 1 ≤ id) (h2 : id < 15) (h : fK id = 4) : fitM id = 254 := by
  rcases id_cases h1 h2 with rfl | rfl | rfl | rfl | rfl | rfl | rfl | rfl | rfl | rfl | rfl | rfl | rfl | rfl <;> first | rfl | (exact absurd h (by decide))
theorem mag_range {id : Int} {key : Nat} (h1 : 1 ≤ id) (h2 : id < 15) (hk : (key : Int) ≤ fitM id) : 0 < (magV id 1 (2 * key + 1)).1 ∧ (magV id 1 (2 * key + 1)).1 < 18446744073709551616 ∧ -5000 ≤ (magV id 1 (2 * key + 1)).2 ∧ (magV id 1 (2 * key + 1)).2 ≤ 5000 ∧
    0 ≤ (2000 : Int) + (magV id 1 (2 * key + 1)).2 ∧ (magV id 1 (2 * key + 1)).1 * 2 ^ ((2000 : Int) + (magV id 1 (2 * key + 1)).2).toNat = uN (fK id).toNat (fW id).toNat (fM id).toNat (fB id).toNat (2 * key + 1) := by
  obtain ⟨w1, w2, w3, w4, -⟩ := fo_wide h1 h2
  obtain ⟨k0, kw, k1, k2, k4⟩ := mag_half h1 h2 hk
  have hKn := fK_nat id
  obtain ⟨b1, b2, b3⟩ := numQ_bnd (kd := (fK id).toNat) (wd := (fW id).toNat) (mn := (fM id).toNat) (bs := (fB id).toNat) (j := 2 * key + 1) (more := 1) (by decide) (by omega) kw
    (fun h => ⟨by omega, (k1 (by omega)).2⟩) w3 (fun h => k2 (by omega)) (fun h3 h4 h5 => by have := scale_top h1 h2 (by omega); omega)
  obtain ⟨c1, c2⟩ := numQ_one (fK id).toNat (fW id).toNat (fM id).toNat (fB id).toNat (2 * key + 1) (by omega) (fun h => ⟨by omega, by omega, by have := (k1 (by omega)).2; rw [show (fW id).toNat + 1 - 1 = (fW id).toNat by omega] at this; exact this⟩) (by omega)
  obtain ⟨d1, d2, d3, d4⟩ := oddP_bnd (e := (numQ (fK id).toNat (fW id).toNat (fM id).toNat (fB id).toNat 1 (2 * key + 1)).2) b1 b2
  have hv := oddP_val (f := 64) (m := (numQ (fK id).toNat (fW id).toNat (fM id).toNat (fB id).toNat 1 (2 * key + 1)).1) (K := 2000) (e := (numQ (fK id).toNat (fW id).toNat (fM id).toNat (fB id).toNat 1 (2 * key + 1)).2) c1
  refine ⟨d1, d2, ?_, ?_, ?_, ?_⟩
  · show -5000 ≤ (oddP 64 _ _).2
    omega
  · show (oddP 64 _ _).2 ≤ 5000
    omega
  · show 0 ≤ (2000 : Int) + (oddP 64 _ _).2
    omega
  · exact hv.trans c2
set_option maxRecDepth 100000 in
set_option maxHeartbeats 1000000 in
theorem behind_any (id : Int) (h1 : 1 ≤ id) (h2 : id < 15) (key : Nat) (hk : (key : Int) ≤ fitM id) (w : World) (hW : VaW w) :
    Calls Tryz.prog 147 #[.int .i64 id, .int .u64 key] w fun e w' => ∃ A n c, e = .returned (.agg #[.bool false, .slice A n c, .int .i64 (magV id 1 (2 * key + 1)).2, .int .i64 0]) ∧ IsT w' (.slice A n c) 128 (magV id 1 (2 * key + 1)).1 ∧ Below w.heap.size w w' := by
  obtain ⟨a1, a2, a3, a4, -, -⟩ := mag_range h1 h2 hk
  have hbt := fun w hW => vbetween_any id h1 h2 key hk w hW
  generalize magV id 1 (2 * key + 1) = p at hbt a1 a2 a3 a4 ⊢
  obtain ⟨m, t⟩ := p
  have hrs := Lib.hid fun w => rsize_any m t a1 a2 ⟨a3, a4⟩ w
  replace hbt := Lib.hid hbt
  clear a1 a2 a3 a4
  go_enter Tryz.func147, Tryz.ntmps147
  go_wp2_with fail
  refine (hbt.out _ (hW.below ((Below.refl _ _).alloc (Nat.le_refl _) _))).mono ?_
  rintro e w1 ⟨rfl, hb⟩
  go_wp2_with fail
  refine (hrs.out _).mono ?_
  rintro e w2 ⟨A, n, c, rfl, hv, hb2⟩
  have hp0 := pBlk_st _ _ _ _ _ (pBlk_st _ _ _ _ _ (pBlk_made w #[.bool false, .slice none 0 0, .int .i64 0, .int .i64 0] 52) hb) hb2
  have hB : Below w.heap.size w w2 := (((Below.refl _ _).alloc (Nat.le_refl _) _).trans (hb.mono (by simp))).trans (hb2.mono (by have := hb.size; simp at this; omega))
  go_wp2_with ((with_reducible show wpList _ _ _ (Oper.mk _ (Op.store 52 _ _) _ _ _ _ :: _) _ _); refine wpList_store_keep _ rfl 52 _ _ rfl w.heap.size #[.bool false, .slice A n c, .int .i64 t, .int .i64 0] #[.bool false, .slice none 0 0, .int .i64 0, .int .i64 0] 52 rfl rfl hp0 exact_size rfl (by simp [Value.oneCell']) noU ?_; intro w3 hp3 hb3 hk3; obtain ⟨s0, s1, s2, s3⟩ := cells4 hp3; have hv3 := hk3 _ _ _ hv)
  exact bodyPost_ret (v := .agg #[.bool false, .slice A n c, .int .i64 t, .int .i64 0]) (by simp [results, Tryz.results147, go_sem, s0, s1, s2, s3]) rfl ⟨A, n, c, rfl, hv3, hB.trans hb3⟩
end Go.Proofs.YtehpneojiinmdaaGreatDoor
namespace Go.Proofs.YtehpneojiinmdaaGreatDoor
open Go.RowKit Go.Cal
theorem of_one (w : World) : Calls Tryz.prog 17 #[.int .u64 1] w (TellsT w 1 1) := of_t w 1 (by decide)
theorem of_ten (w : World) : Calls Tryz.prog 17 #[.int .u64 10] w (TellsT w 1 10) := of_t w 10 (by decide)
theorem flB_pos (e k : Int) : 0 < flB e k := exP_pos _ _ (by decide)
set_option maxRecDepth 100000 in
set_option maxHeartbeats 2000000 in
theorem xfloor_any {w : World} {A : Option Addr} {n c N : Nat} (m : Nat) (hm : 12178 ≤ m) (hmm : m ≤ 1048575) (neg : Bool) (t k : Int) (h : IsT w (.slice A n c) 128 N) (ht : -5000 ≤ t ∧ t ≤ 5000) (hk : -5000 ≤ k ∧ k ≤ 5000) :
    Calls Tryz.prog 162 #[.agg #[.bool neg, .slice A n c, .int .i64 t, .int .i64 0], .int .i64 k] w fun e w' => ∃ v, e = .returned (.tuple #[v, .int .i64 (flR N t k)]) ∧ IsT w' v m (flQ N t k) ∧ Below w.heap.size w w' := by
  have hm1 : max k (-5000) = k := by omega
  have hm2 : min k 5000 = k := by omega
  have hb0 := (Below.refl w.heap.size w).alloc (Nat.le_refl _) (.cells #[.bool neg, .slice A n c, .int .i64 t, .int .i64 0] 52)
  have hL := (((LiveP.start w).go hb0).put (pBlk_st _ _ _) (pBlk_made w #[.bool neg, .slice A n c, .int .i64 t, .int .i64 0] 52)).put (pT_st (.slice A n c) 128 N) (h.below hb0)
  have hA : exP N (t - k) (-k) = flA N t k := rfl
  have hB : exP 1 (k - t) k = flB t k := rfl
  have hBp := flB_pos t k
  have hQ : flA N t k / flB t k = flQ N t k := rfl
  have hR : flR N t k = if flA N t k % flB t k = 0 then 0 else 2 + cmpV ((2 * (flA N t k % flB t k) : Nat) : Int) ((flB t k : Nat) : Int) := rfl
  obtain ⟨ht1, ht2⟩ := ht
  obtain ⟨hk1, hk2⟩ := hk
  rw [hR]
  generalize flA N t k = a at hA hQ ⊢
  generalize flB t k = b at hB hQ hBp ⊢
  generalize flQ N t k = q at hQ ⊢
  clear hR h hb0
  have hng : -(t - k) = k - t := by omega
  have hsB := fun (W : World) (v : Value) (h : IsN W v 1 1) => xscaled_any m hm (-(t - k)) k (h.more (by decide)) (by omega) (by omega)
  rw [hng, hB] at hsB
  replace hsB := Lib.hid hsB
  have hsA := fun (W : World) (h : IsN W (.slice A n c) 128 N) => xscaled_any m hm (t - k) (-k) h (by omega) (by omega)
  rw [hA] at hsA
  replace hsA := Lib.hid hsA
  clear hng
  replace hA := Lib.hid hA
  replace hB := Lib.hid hB
  replace hQ := Lib.hid hQ
  obtain ⟨fr, hfr⟩ : ∃ fr : Int, (if a % b = 0 then (0 : Int) else 2 + cmpV ((2 * (a % b) : Nat) : Int) ((b : Nat) : Int)) = fr := ⟨_, rfl⟩
  rw [hfr]
  replace hfr := Lib.hid hfr
  have hX := pBlk_made w #[.bool neg, .slice A n c, .int .i64 t, .int .i64 0] 52
  go_enter Tryz.func162, Tryz.ntmps162
  go_wp2_with fail
  go_quiet (fail)
  replace hL := hL.go (below_drewN _ nq)
  go_wp2_with fail
  refine (of_one _).mono ?_
  rintro e w1 ⟨v1, rfl, hv1, hb1⟩
  replace hL := (hL.go hb1).put (pT_st v1 1 1) hv1
  clear hb1 hv1
  go_wp2_with fail
  rw [show -(t - k) = k - t by omega]
  refine (hsB.out _ _ (IsT.isN (hL.get (P := pT v1 1 1) (by repeat (first | exact List.mem_cons_self | apply List.mem_cons_of_mem))))).mono ?_
  rintro e w2 ⟨v2, rfl, hv, hb⟩
  replace hL := (hL.go hb).put (pT_st _ _ _) hv
  clear hb hv
  obtain ⟨r0, r1, r2, r3⟩ := cells4 (hL.get (P := pBlk w.heap.size #[.bool neg, .slice A n c, .int .i64 t, .int .i64 0] 52) (by repeat (first | exact List.mem_cons_self | apply List.mem_cons_of_mem)))
  go_wp2_with fail
  refine (hsA.out _ (IsT.isN (hL.get (P := pT (.slice A n c) 128 N) (by repeat (first | exact List.mem_cons_self | apply List.mem_cons_of_mem))))).mono ?_
  rintro e w3 ⟨v3, rfl, hv, hb⟩
  replace hL := (hL.go hb).put (pT_st _ _ _) hv
  clear hb hv r0 r1 r2 r3
  go_wp2_with fail
  refine (div_t (IsT.isN (hL.get (P := pT v3 m a) (by repeat (first | exact List.mem_cons_self | apply List.mem_cons_of_mem)))) (IsT.isN (hL.get (P := pT v2 m b) (by repeat (first | exact List.mem_cons_self | apply List.mem_cons_of_mem)))) (by omega) (by omega) hBp).mono ?_
  rintro e w4 ⟨v4, v5, rfl, hq, hr, hb⟩
  replace hL := ((hL.go hb).put (pT_st _ _ _) hq).put (pT_st _ _ _) hr
  clear hb hq hr
  rw [hQ.out] at hL
  go_wp2_with fail
  refine (bits_b (hL.get (P := pT v5 m (a % b)) (by repeat (first | exact List.mem_cons_self | apply List.mem_cons_of_mem))) (by omega)).mono ?_
  rintro e w5 ⟨rfl, hb⟩
  replace hL := hL.go hb
  clear hb
  by_cases h0 : a % b = 0
  · have hf := hfr.out
    rw [if_pos h0] at hf
    rw [h0]
    have hb0 : (((blen 0 : Nat) : Int) == 0) = true := by decide +kernel
    go_wp2
    go_ret2
    subst hf
    exact ⟨_, rfl, hL.get (P := pT v4 m q) (by repeat (first | exact List.mem_cons_self | apply List.mem_cons_of_mem)), hL.below⟩
  · have hf := hfr.out
    rw [if_neg h0] at hf
    obtain ⟨r, hr⟩ : ∃ r, a % b = r := ⟨_, rfl⟩
    rw [hr] at hL h0 hf ⊢
    replace hf := Lib.hid hf
    have hbl : ((blen r : Nat) : Int) ≠ 0 := by
      have := (blen_bnd (N := r) (by omega)).1
      intro h
      have h2 : blen r = 0 := by omega
      rw [h2] at this
      simp at this
      omega
    have hbl' : (((blen r : Nat) : Int) == 0) = false := by simpa using hbl
    replace hr := Lib.hid hr
    go_wp2_with fail
    refine (shl_t 1 (m + 1) (2 * r) (IsT.isN (hL.get (P := pT v5 m r) (by repeat (first | exact List.mem_cons_self | apply List.mem_cons_of_mem)))) (by omega) (by rw [Nat.mul_comm]; rfl) (by
      have := (IsT.isN (hL.get (P := pT v5 m r) (by repeat (first | exact List.mem_cons_self | apply List.mem_cons_of_mem)))).lt
      rw [Nat.pow_succ]
      have h64 : 2 ≤ 18446744073709551616 := by decide
      rw [Nat.mul_comm]
      exact Nat.mul_lt_mul_of_lt_of_le this h64 (by decide))).mono ?_
    rintro e w6 ⟨v6, rfl, hv, hb⟩
    replace hL := (hL.go hb).put (pT_st _ _ _) hv
    clear hb hv
    go_wp2_with fail
    refine (cmp_t (IsT.isN (hL.get (P := pT v6 (m + 1) (2 * r)) (by repeat (first | exact List.mem_cons_self | apply List.mem_cons_of_mem)))) (IsT.isN (hL.get (P := pT v2 m b) (by repeat (first | exact List.mem_cons_self | apply List.mem_cons_of_mem)))) (by omega) (by omega)).mono ?_
    rintro e w7 ⟨rfl, hb⟩
    replace hL := hL.go hb
    clear hb
    obtain ⟨cv, hcv⟩ : ∃ cv, cmpV ((2 * r : Nat) : Int) ((b : Nat) : Int) = cv := ⟨_, rfl⟩
    have hcb : -1 ≤ cv ∧ cv ≤ 1 := by
      rw [← hcv]
      rcases cmpV_cases ((2 * r : Nat) : Int) ((b : Nat) : Int) with ⟨_, h⟩ | ⟨_, h⟩ | ⟨_, h⟩ <;> rw [h] <;> decide
    have hf2 := hf.out
    rw [hcv] at hf2 ⊢
    obtain ⟨hcb1, hcb2⟩ := hcb
    subst hf2
    go_wp2
    go_ret2
    exact ⟨_, rfl, hL.get (P := pT v4 m q) (by repeat (first | exact List.mem_cons_self | apply List.mem_cons_of_mem)), hL.below⟩
end Go.Proofs.YtehpneojiinmdaaGreatDoor
namespace Go.Proofs.YtehpneojiinmdaaGreatDoor
open Go.RowKit Go.Cal
section
variable {w W W' : World} {neg : Bool} {A : Option Addr} {n c N : Nat} {t f : Int}
theorem boxW (h : LiveP w W [pT (.slice A n c) 128 N, pBlk w.heap.size #[.bool neg, .slice A n c, .int .i64 t, .int .i64 f] 52]) : LiveP w W [pT (.slice A n c) 128 N, pBlk w.heap.size #[.bool neg, .slice A n c, .int .i64 t, .int .i64 f] 52] ∧ w.heap.size < (W).heap.size ∧ (W).cell? ⟨w.heap.size, 0, none⟩ = some (.bool neg) ∧ (W).cell? ⟨w.heap.size, 1, none⟩ = some (.slice A n c) ∧ (W).cell? ⟨w.heap.size, 2, none⟩ = some (.int .i64 t) ∧ (W).cell? ⟨w.heap.size, 3, none⟩ = some (.int .i64 f) := by
  have p1 := h.get (P := pBlk w.heap.size #[.bool neg, .slice A n c, .int .i64 t, .int .i64 f] 52) (by repeat (first | exact List.mem_cons_self | apply List.mem_cons_of_mem))
  have hlt : w.heap.size < W.heap.size := by
    have := p1
    unfold pBlk at this
    exact (Array.getElem?_eq_some_iff.1 this).1
  exact ⟨h, hlt, p1.cell 0 _ rfl, p1.cell 1 _ rfl, p1.cell 2 _ rfl, p1.cell 3 _ rfl⟩
theorem keepW (h : LiveP w W [pT (.slice A n c) 128 N, pBlk w.heap.size #[.bool neg, .slice A n c, .int .i64 t, .int .i64 f] 52] ∧ w.heap.size < (W).heap.size ∧ (W).cell? ⟨w.heap.size, 0, none⟩ = some (.bool neg) ∧ (W).cell? ⟨w.heap.size, 1, none⟩ = some (.slice A n c) ∧ (W).cell? ⟨w.heap.size, 2, none⟩ = some (.int .i64 t) ∧ (W).cell? ⟨w.heap.size, 3, none⟩ = some (.int .i64 f)) (hb : Below W.heap.size W W') : LiveP w W' [pT (.slice A n c) 128 N, pBlk w.heap.size #[.bool neg, .slice A n c, .int .i64 t, .int .i64 f] 52] ∧ w.heap.size < (W').heap.size ∧ (W').cell? ⟨w.heap.size, 0, none⟩ = some (.bool neg) ∧ (W').cell? ⟨w.heap.size, 1, none⟩ = some (.slice A n c) ∧ (W').cell? ⟨w.heap.size, 2, none⟩ = some (.int .i64 t) ∧ (W').cell? ⟨w.heap.size, 3, none⟩ = some (.int .i64 f) := boxW (h.1.go hb)
theorem bhW {id : Int} {key m : Nat} {e : Int} (hW : VaW w) (h1 : 1 ≤ id) (h2 : id < 15) (hk : (key : Int) ≤ fitM id) (hm : magV id 1 (2 * key + 1) = (m, e)) (h : LiveP w W [pT (.slice A n c) 128 N, pBlk w.heap.size #[.bool neg, .slice A n c, .int .i64 t, .int .i64 f] 52] ∧ w.heap.size < (W).heap.size ∧ (W).cell? ⟨w.heap.size, 0, none⟩ = some (.bool neg) ∧ (W).cell? ⟨w.heap.size, 1, none⟩ = some (.slice A n c) ∧ (W).cell? ⟨w.heap.size, 2, none⟩ = some (.int .i64 t) ∧ (W).cell? ⟨w.heap.size, 3, none⟩ = some (.int .i64 f)) : Calls Tryz.prog 147 #[.int .i64 id, .int .u64 key] W fun x w' => ∃ A n c, x = .returned (.agg #[.bool false, .slice A n c, .int .i64 e, .int .i64 0]) ∧ IsT w' (.slice A n c) 128 m ∧ Below W.heap.size W w' := by
  have := behind_any id h1 h2 key hk W (hW.below h.1.below)
  rw [hm] at this
  exact this
theorem cmW {A2 : Option Addr} {n2 c2 m : Nat} {e r : Int} (h : LiveP w W [pT (.slice A n c) 128 N, pBlk w.heap.size #[.bool neg, .slice A n c, .int .i64 t, .int .i64 f] 52] ∧ w.heap.size < (W).heap.size ∧ (W).cell? ⟨w.heap.size, 0, none⟩ = some (.bool neg) ∧ (W).cell? ⟨w.heap.size, 1, none⟩ = some (.slice A n c) ∧ (W).cell? ⟨w.heap.size, 2, none⟩ = some (.int .i64 t) ∧ (W).cell? ⟨w.heap.size, 3, none⟩ = some (.int .i64 f)) (ht : -5000 ≤ t ∧ t ≤ 5000) (hf : -5000 ≤ f ∧ f ≤ 5000) (he : -5000 ≤ e ∧ e ≤ 5000) (hv : IsT W (.slice A2 n2 c2) 128 m) (hr : exC N t f m e 0 = r) :
    Calls Tryz.prog 67 #[.agg #[.bool neg, .slice A n c, .int .i64 t, .int .i64 f], .agg #[.bool false, .slice A2 n2 c2, .int .i64 e, .int .i64 0]] W fun x w' => x = .returned (.int .i64 r) ∧ Below W.heap.size W w' := by
  subst hr
  exact xcmp_any neg false t e f 0 (h.1.get (P := pT (.slice A n c) 128 N) (by repeat (first | exact List.mem_cons_self | apply List.mem_cons_of_mem))) hv ht he hf (by omega)
end
theorem wi_cases {id : Int} {key m : Nat} {e : Int} (N : Nat) (t f : Int) (he : 0 ≤ (2000 : Int) + e) (hm : m * 2 ^ ((2000 : Int) + e).toNat = uN (fK id).toNat (fW id).toNat (fM id).toNat (fB id).toNat (2 * key + 1)) :
    (exC N t f m e 0 = -1 ∧ wiF id (exP N t f) (exQ t f) key = true) ∨ (exC N t f m e 0 = 0 ∧ wiF id (exP N t f) (exQ t f) key = (key % 2 == 0)) ∨ (exC N t f m e 0 = 1 ∧ wiF id (exP N t f) (exQ t f) key = false) := by
  obtain ⟨a, b⟩ := exC_wi (kd := (fK id).toNat) (wd := (fW id).toNat) (mn := (fM id).toNat) (bs := (fB id).toNat) (key := key) (N := N) (t := t) (f := f) he hm
  have hc : exC N t f m e 0 = -1 ∨ exC N t f m e 0 = 0 ∨ exC N t f m e 0 = 1 := by
    unfold exC
    rcases cmpV_cases ((exP N t f * exQ e 0 : Nat) : Int) ((exP m e 0 * exQ t f : Nat) : Int) with ⟨_, h⟩ | ⟨_, h⟩ | ⟨_, h⟩ <;> rw [h] <;> decide
  unfold wiF wiN
  rcases hc with h | h | h
  · refine .inl ⟨h, ?_⟩
    rw [decide_eq_true (a.1 (by omega))]; rfl
  · refine .inr (.inl ⟨h, ?_⟩)
    rw [decide_eq_true (b.1 h), decide_eq_false (fun h' => by have := a.2 h'; omega)]
    simp
  · refine .inr (.inr ⟨h, ?_⟩)
    rw [decide_eq_false (fun h' => by have := a.2 h'; omega), decide_eq_false (fun h' => by have := b.2 h'; omega)]
    rfl
theorem and_one (key : Nat) (h : key < 18446744073709551616) : bits BinOp.and IntKind.u64 (key : Int) 1 = ((key % 2 : Nat) : Int) := by
  have := bits_and_u64_nat key 1 h (by decide)
  rw [Nat.and_one_is_mod] at this
  exact this
set_option maxRecDepth 100000 in
set_option maxHeartbeats 4000000 in
theorem within_any (id : Int) (h1 : 1 ≤ id) (h2 : id < 15) (neg : Bool) {A : Option Addr} {n c N : Nat} (t f : Int) (key : Nat) (hk : (key : Int) ≤ fitM id) {w : World} (hW : VaW w) (h : IsT w (.slice A n c) 128 N) (ht : -5000 ≤ t ∧ t ≤ 5000) (hf : -5000 ≤ f ∧ f ≤ 5000) :
    Calls Tryz.prog 108 #[.int .i64 id, .agg #[.bool neg, .slice A n c, .int .i64 t, .int .i64 f], .int .u64 key] w fun e w' => e = .returned (.bool (wiF id (exP N t f) (exQ t f) key)) ∧ Below w.heap.size w w' := by
  obtain ⟨a1, a2, a3, a4, a5, a6⟩ := mag_range h1 h2 hk
  have hkb : key < 18446744073709551616 := by have := (mag_half h1 h2 hk).word; omega
  obtain ⟨m, e, hm⟩ : ∃ m e, magV id 1 (2 * key + 1) = (m, e) := ⟨_, _, rfl⟩
  rw [hm] at a3 a4 a5 a6
  have hcs := wi_cases N t f a5 a6
  obtain ⟨r, hr⟩ : ∃ r, exC N t f m e 0 = r := ⟨_, rfl⟩
  obtain ⟨wi, hwi⟩ : ∃ b, wiF id (exP N t f) (exQ t f) key = b := ⟨_, rfl⟩
  rw [hr, hwi] at hcs
  rw [hwi]
  have he : -5000 ≤ e ∧ e ≤ 5000 := ⟨a3, a4⟩
  have hb0 := (Below.refl w.heap.size w).alloc (Nat.le_refl _) (.cells #[.bool neg, .slice A n c, .int .i64 t, .int .i64 f] 52)
  have hL := (((LiveP.start w).go hb0).put (pBlk_st _ _ _) (pBlk_made w #[.bool neg, .slice A n c, .int .i64 t, .int .i64 f] 52)).put (pT_st (.slice A n c) 128 N) (h.below hb0)
  have hS0 := boxW (hL.go (Below.refl _ _).drew)
  obtain ⟨-, hlt, d0, d1, d2, d3⟩ := boxW hL
  have han := and_one key hkb
  clear a1 a2 a3 a4 a5 a6 hwi h hb0 hL
  replace hm := Lib.hid hm
  replace hr := Lib.hid hr
  replace ht := Lib.hid ht
  replace hf := Lib.hid hf
  replace he := Lib.hid he
  replace hk := Lib.hid hk
  have hpar := Lib.hid (show (((key % 2 : Nat) : Int) == 0) = (key % 2 == 0) by rw [Bool.eq_iff_iff, beq_iff_eq, beq_iff_eq]; omega)
  rcases hcs with ⟨rfl, rfl⟩ | ⟨rfl, rfl⟩ | ⟨rfl, rfl⟩
  all_goals
    replace han := Lib.hid han
    go_enter Tryz.func108, Tryz.ntmps108
    go_wp2_with fail
    go_region_held3 (fun w' => LiveP w w' [pT (.slice A n c) 128 N, pBlk w.heap.size #[.bool neg, .slice A n c, .int .i64 t, .int .i64 f] 52] ∧ w.heap.size < (w').heap.size ∧ (w').cell? ⟨w.heap.size, 0, none⟩ = some (.bool neg) ∧ (w').cell? ⟨w.heap.size, 1, none⟩ = some (.slice A n c) ∧ (w').cell? ⟨w.heap.size, 2, none⟩ = some (.int .i64 t) ∧ (w').cell? ⟨w.heap.size, 3, none⟩ = some (.int .i64 f)) (first | exact hS0 | with_reducible assumption | exact keepW (by with_reducible assumption) (by with_reducible assumption))
      (first
        | (go_at_call 147; with_reducible refine (bhW hW h1 h2 hk.out hm.out (by with_reducible assumption)).mono ?_; rintro x w4 ⟨A4, n4, c4, rfl, hv4, hb4⟩)
        | (go_at_call 67; with_reducible refine (cmW (by with_reducible assumption) ht.out hf.out he.out hv4 hr.out).mono ?_; rintro x w5 ⟨rfl, hb5⟩))
    have hq : LiveP w w5 [pT (.slice A n c) 128 N, pBlk w.heap.size #[.bool neg, .slice A n c, .int .i64 t, .int .i64 f] 52] ∧ w.heap.size < (w5).heap.size ∧ (w5).cell? ⟨w.heap.size, 0, none⟩ = some (.bool neg) ∧ (w5).cell? ⟨w.heap.size, 1, none⟩ = some (.slice A n c) ∧ (w5).cell? ⟨w.heap.size, 2, none⟩ = some (.int .i64 t) ∧ (w5).cell? ⟨w.heap.size, 3, none⟩ = some (.int .i64 f) := by with_reducible assumption
    go_wp2
    (try rw [han.out, hpar.out])
    go_ret
    exact ⟨rfl, hq.1.below⟩
end Go.Proofs.YtehpneojiinmdaaGreatDoor
