/- The quire: Add and Sub. Conditions: the variables that values read. -/
/- Plain: a quire that sums products of posits of 8 bits, and the sums. Conditions: none. -/
/- Exact numbers compared with their signs: of like sign, and alike. Conditions: none. -/
/- The theorem TopQuire: what is held at its end. Conditions: none. -/
import Derived.Test.YtehpneojiinmdaaGreatDoorTu25
import Derived.Test.YtehpneojiinmdaaGreatDoorTu24
import Derived.Test.YtehpneojiinmdaaGreatDoorTu17
namespace Go.Proofs.YtehpneojiinmdaaGreatDoor
open Go.RowKit Go.Cal
theorem does_q {w : World} {g X : Nat} {id : Int} (h1 : 1 ≤ id) (h4 : id ≤ 4) (a b : Int) (less : Bool) (ha : 0 ≤ a ∧ a < 18446744073709551616) (hb : 0 ≤ b ∧ b < 18446744073709551616) (hX : X < 2 ^ quS id) (h : QuS g id X w) (hW : VaW w) :
    Calls Tryz.prog 51 #[.pointer (some ⟨g, 0, none⟩), .int .u64 a, .int .u64 b, .bool less] w fun e w' => e = .returned (.int .i64 (quDoE id a b)) ∧ QuS g id (quDo id X a b less) w' ∧ Mut g w w' := by
  by_cases hf : fitsV id a ≠ 0 ∨ fitsV id b ≠ 0
  · obtain ⟨c1, n1, m1, x1, d1⟩ := deco_some id a ha.1 ha.2
    obtain ⟨c2, n2, m2, x2, d2⟩ := deco_some id b hb.1 hb.2
    have e1 : quDoE id a b = 1 := by unfold quDoE; rw [if_pos hf]
    have e2 : quDo id X a b less = X := by unfold quDo; rw [if_pos hf]
    rw [e1, e2]
    refine does_bad ?_ h hW d1 d2
    by_cases h0 : fitsV id a = 0
    · right
      refine ⟨by simp [h0], ?_⟩
      rcases hf with h' | h'
      · exact absurd h0 h'
      · simp [h']
    · left; simp [h0]
  · have fa : fitsV id a = 0 := Classical.byContradiction fun h' => hf (.inl h')
    have fb : fitsV id b = 0 := Classical.byContradiction fun h' => hf (.inr h')
    obtain ⟨-, i15, a3⟩ := fits_two fa
    obtain ⟨-, -, b3⟩ := fits_two fb
    have d1 := Lib.hid fun w (hW : VaW w) => vdec_yes id a h1 i15 ha.1 a3 w hW
    have d2 := Lib.hid fun w (hW : VaW w) => vdec_yes id b h1 i15 hb.1 b3 w hW
    have e1 : quDoE id a b = 0 := by unfold quDoE; rw [if_neg hf]
    rw [e1]
    by_cases hN : X = quN id
    · have e2 : quDo id X a b less = X := by unfold quDo; rw [if_neg hf, if_pos hN]
      rw [e2]
      exact does_still h1 h4 hN h hW d1 d2
    · by_cases hc : classV id a = 4 ∨ classV id b = 4
      · have e2 : quDo id X a b less = quN id := by unfold quDo; rw [if_neg hf, if_neg hN, if_pos hc]
        rw [e2]
        refine does_nar h1 h4 hN ?_ h hW d1 d2
        by_cases h0 : classV id a = 4
        · left; simp [h0]
        · right
          refine ⟨by simp [h0], ?_⟩
          rcases hc with h' | h'
          · exact absurd h' h0
          · simp [h']
      · have hc4 : (classV id a == 4) = false ∧ (classV id b == 4) = false := ⟨by simpa using fun h' => hc (.inl h'), by simpa using fun h' => hc (.inr h')⟩
        by_cases hd : classV id a = 2 ∧ classV id b = 2
        · have e2 : quDo id X a b less = quAdd id X (quPr id (decN id a) (decM id a) (decE id a) (decN id b) (decM id b) (decE id b) less) := by unfold quDo; rw [if_neg hf, if_neg hN, if_neg hc, if_pos hd]
          rw [e2]
          obtain ⟨p1, p2, p3, p4, p5, p6, p7, p8, p9⟩ := quPr_bnd h1 h4 fa fb ha.1 hb.1 hd.1 hd.2
          obtain ⟨s1, -⟩ := quS_bnd h1 h4
          exact does_sum h1 h4 hN hX hd.1 hd.2 p4 p5 ⟨p6, p7⟩ ⟨p8, p9⟩ p1 (Nat.lt_of_le_of_lt p3 (Nat.pow_lt_pow_right (by decide) (by omega))) h hW d1 d2
        · have e2 : quDo id X a b less = X := by unfold quDo; rw [if_neg hf, if_neg hN, if_neg hc, if_neg hd]
          rw [e2]
          refine does_none h1 h4 hN hc4 ?_ h hW d1 d2
          by_cases h0 : classV id a = 2
          · right; exact ⟨by simp [h0], by simpa using fun h' => hd ⟨h0, h'⟩⟩
          · left; simp [h0]
set_option maxRecDepth 100000 in
theorem add_q {w : World} {g X : Nat} {id : Int} (h1 : 1 ≤ id) (h4 : id ≤ 4) (a b : Int) (ha : 0 ≤ a ∧ a < 18446744073709551616) (hb : 0 ≤ b ∧ b < 18446744073709551616) (hX : X < 2 ^ quS id) (h : QuS g id X w) (hW : VaW w) :
    Calls Tryz.prog 18 #[.pointer (some ⟨g, 0, none⟩), .int .u64 a, .int .u64 b] w fun e w' => e = .returned (.int .i64 (quDoE id a b)) ∧ QuS g id (quDo id X a b false) w' ∧ Mut g w w' := by
  have hd := Lib.hid (does_q h1 h4 a b false ha hb hX h hW)
  generalize quDoE id a b = E at hd ⊢
  generalize quDo id X a b false = Y at hd ⊢
  clear ha hb hX h hW
  go_enter Tryz.func18, Tryz.ntmps18
  go_wp2_with fail
  refine hd.out.mono ?_
  rintro e w1 ⟨rfl, hq, hm⟩
  go_wp2
  go_ret
  exact ⟨rfl, hq, hm⟩
end Go.Proofs.YtehpneojiinmdaaGreatDoor
namespace Go.Proofs.YtehpneojiinmdaaGreatDoor
open Go.RowKit Go.Cal
/-- The bits of a difference. -/
def encQ (id : Int) (U D : Nat) : Nat := if D ≤ U then U - D else 2 ^ quS id - (D - U)
theorem encQ_lt {id : Int} {U D : Nat} (_ : U < 2 ^ quS id) (_ : D < 2 ^ quS id) : encQ id U D < 2 ^ quS id := by
  unfold encQ
  split <;> omega
theorem encQ_nar {id : Int} {U D : Nat} (h1 : 1 ≤ id) (h4 : id ≤ 4) (hU : U < 2 ^ (quS id - 1)) (hD : D < 2 ^ (quS id - 1)) : encQ id U D ≠ quN id := by
  obtain ⟨s1, -⟩ := quS_bnd h1 h4
  have h2 : 2 ^ quS id = 2 * 2 ^ (quS id - 1) := by rw [← Nat.pow_succ']; congr 1; omega
  unfold encQ quN
  rw [h2]
  split <;> omega
theorem encQ_up {id : Int} {U D n : Nat} (hU : U + n < 2 ^ quS id) (hD : D < 2 ^ quS id) : quAdd id (encQ id U D) n = encQ id (U + n) D := by
  unfold quAdd encQ
  generalize 2 ^ quS id = P at *
  repeat' split
  all_goals omega
theorem encQ_down {id : Int} {U D n : Nat} (hU : U < 2 ^ quS id) (hD : D + n < 2 ^ quS id) (h0 : 0 < n) : quAdd id (encQ id U D) (quT id n) = encQ id U (D + n) := by
  unfold quAdd encQ quT
  rw [if_neg (show ¬ n = 0 by omega)]
  generalize 2 ^ quS id = P at *
  repeat' split
  all_goals omega
/-- What the bits hold is the difference. -/
theorem encQ_val {id : Int} {U D : Nat} (h1 : 1 ≤ id) (h4 : id ≤ 4) (hU : U < 2 ^ (quS id - 1)) (hD : D < 2 ^ (quS id - 1)) : quB id (encQ id U D) = decide (U < D) ∧ quA id (encQ id U D) = if D ≤ U then U - D else D - U := by
  obtain ⟨s1, -⟩ := quS_bnd h1 h4
  have h2 : 2 ^ quS id = 2 * 2 ^ (quS id - 1) := by rw [← Nat.pow_succ']; congr 1; omega
  have hb : quB id (encQ id U D) = decide (U < D) := by
    unfold quB encQ quN
    rw [h2]
    by_cases h : D ≤ U
    · rw [if_pos h]; simp; omega
    · rw [if_neg h]; simp; omega
  refine ⟨hb, ?_⟩
  unfold quA
  rw [hb]
  unfold quT encQ
  rw [h2]
  by_cases h : D ≤ U
  · rw [if_pos h, if_pos h, if_neg (by simp; omega)]
  · rw [if_neg h, if_neg h, if_pos (by simp; omega), if_neg (by omega)]
    omega
/-- A round of the law: the quire, and the two sums. -/
theorem encQ_round {id a b : Int} {U D j : Nat} (h1 : 1 ≤ id) (h4 : id ≤ 4) (fa : fitsV id a = 0) (fb : fitsV id b = 0) (ha : 0 ≤ a) (hb : 0 ≤ b) (hj : j < 60) (hU : U ≤ j * 2 ^ (quS id - 32)) (hD : D ≤ j * 2 ^ (quS id - 32)) (ca : classV id a ≠ 4) (cb : classV id b ≠ 4) :
    quDo id (encQ id U D) a b false = (if classV id a = 2 ∧ classV id b = 2 then (if (decN id a != decN id b) = true then encQ id U (D + quM id (decM id a) (decE id a) (decM id b) (decE id b)) else encQ id (U + quM id (decM id a) (decE id a) (decM id b) (decE id b)) D) else encQ id U D) := by
  obtain ⟨s1, -⟩ := quS_bnd h1 h4
  obtain ⟨X, hX⟩ : ∃ X, 2 ^ (quS id - 32) = X := ⟨_, rfl⟩
  have h2 : 2 ^ (quS id - 1) = 2147483648 * X := by
    rw [← hX, show quS id - 1 = 31 + (quS id - 32) by omega, Nat.pow_add]
  have h3 : 2 ^ quS id = 4294967296 * X := by
    rw [← hX, show quS id = 32 + (quS id - 32) by omega, Nat.pow_add, show 32 + (quS id - 32) - 32 = quS id - 32 by omega]
  have hX0 : 0 < X := hX ▸ Nat.two_pow_pos _
  rw [hX] at hU hD
  have hU' : U ≤ 60 * X := Nat.le_trans hU (Nat.mul_le_mul_right _ (by omega))
  have hD' : D ≤ 60 * X := Nat.le_trans hD (Nat.mul_le_mul_right _ (by omega))
  have hn := encQ_nar (U := U) (D := D) h1 h4 (by omega) (by omega)
  unfold quDo
  rw [if_neg (by simp [fa, fb]), if_neg hn, if_neg (by simp [ca, cb])]
  by_cases hc : classV id a = 2 ∧ classV id b = 2
  · rw [if_pos hc, if_pos hc]
    obtain ⟨-, p2, p3, -⟩ := quPr_bnd h1 h4 fa fb ha hb hc.1 hc.2
    rw [hX] at p3
    unfold quPr
    rw [Bool.bne_false]
    by_cases hs : (decN id a != decN id b) = true
    · rw [if_pos hs, if_pos hs]
      exact encQ_down (by omega) (by omega) p2
    · rw [if_neg hs, if_neg hs]
      exact encQ_up (by omega) (by omega)
  · rw [if_neg hc, if_neg hc]
end Go.Proofs.YtehpneojiinmdaaGreatDoor
namespace Go.Proofs.YtehpneojiinmdaaGreatDoor
open Go.RowKit Go.Cal
theorem nil_t (w : World) (k : Nat) : IsT w (.slice none 0 0) k 0 := ⟨none, 0, [], rfl, .nil, Nat.le_refl _, by unfold maxLen; omega, by simp, .zero⟩
set_option maxRecDepth 100000 in
set_option maxHeartbeats 4000000 in
theorem xcs_pos {w : World} {A1 A2 : Option Addr} {m1 m2 c1 c2 N1 N2 : Nat} (t1 t2 f1 f2 : Int) (h1 : IsT w (.slice A1 m1 c1) 128 N1) (h2 : IsT w (.slice A2 m2 c2) 128 N2)
    (ht1 : -5000 ≤ t1 ∧ t1 ≤ 5000) (ht2 : -5000 ≤ t2 ∧ t2 ≤ 5000) (hf1 : -5000 ≤ f1 ∧ f1 ≤ 5000) (hf2 : -5000 ≤ f2 ∧ f2 ≤ 5000) (h12 : exC N1 t1 f1 N2 t2 f2 = 0) (h21 : exC N2 t2 f2 N1 t1 f1 = 0) :
    Calls Tryz.prog 25 #[.agg #[.bool false, .slice A1 m1 c1, .int .i64 t1, .int .i64 f1], .agg #[.bool false, .slice A2 m2 c2, .int .i64 t2, .int .i64 f2]] w fun e w' => e = .returned (.int .i64 0) ∧ Below w.heap.size w w' := by
  have hb0 : Below w.heap.size w (((w.alloc (.cells #[.bool false, .slice A1 m1 c1, .int .i64 t1, .int .i64 f1] 52)).alloc (.cells #[.bool false, .slice A2 m2 c2, .int .i64 t2, .int .i64 f2] 52)).alloc (.cells #[.bool false, .slice none 0 0, .int .i64 0, .int .i64 0] 52)) := (((Below.refl _ _).alloc (Nat.le_refl _) _).alloc (by simp) _).alloc (by simp; omega) _
  have hL : LiveP w (((w.alloc (.cells #[.bool false, .slice A1 m1 c1, .int .i64 t1, .int .i64 f1] 52)).alloc (.cells #[.bool false, .slice A2 m2 c2, .int .i64 t2, .int .i64 f2] 52)).alloc (.cells #[.bool false, .slice none 0 0, .int .i64 0, .int .i64 0] 52)) [pT (.slice A2 m2 c2) 128 N2, pT (.slice A1 m1 c1) 128 N1, pBlk (w.heap.size + 2) #[.bool false, .slice none 0 0, .int .i64 0, .int .i64 0] 52, pBlk (w.heap.size + 1) #[.bool false, .slice A2 m2 c2, .int .i64 t2, .int .i64 f2] 52, pBlk w.heap.size #[.bool false, .slice A1 m1 c1, .int .i64 t1, .int .i64 f1] 52] := by
    have h3 := ((boxes2 w #[.bool false, .slice A1 m1 c1, .int .i64 t1, .int .i64 f1] #[.bool false, .slice A2 m2 c2, .int .i64 t2, .int .i64 f2] 52).go ((Below.refl _ _).alloc (Nat.le_refl _) (.cells #[.bool false, .slice none 0 0, .int .i64 0, .int .i64 0] 52))).put (pBlk_st _ _ _) (pBlk_madeR ((w.alloc (.cells #[.bool false, .slice A1 m1 c1, .int .i64 t1, .int .i64 f1] 52)).alloc (.cells #[.bool false, .slice A2 m2 c2, .int .i64 t2, .int .i64 f2] 52)) #[.bool false, .slice none 0 0, .int .i64 0, .int .i64 0] 52 (w.heap.size + 2) (by simp))
    exact (h3.put (pT_st (.slice A1 m1 c1) 128 N1) (h1.below hb0)).put (pT_st (.slice A2 m2 c2) 128 N2) (h2.below hb0)
  have cab := Lib.hid fun (W : World) (x : IsT W (.slice A1 m1 c1) 128 N1) (y : IsT W (.slice A2 m2 c2) 128 N2) => (show _ from by have h := xcmp_any false false t1 t2 f1 f2 x y ht1 ht2 hf1 hf2; rw [h12] at h; exact h)
  have cba := Lib.hid fun (W : World) (x : IsT W (.slice A1 m1 c1) 128 N1) (y : IsT W (.slice A2 m2 c2) 128 N2) => (show _ from by have h := xcmp_any false false t2 t1 f2 f1 y x ht2 ht1 hf2 hf1; rw [h21] at h; exact h)
  have ca0 := Lib.hid fun (W : World) (x : IsT W (.slice A1 m1 c1) 128 N1) => xcmp_any false false t1 0 f1 0 x (nil_t W 128) ht1 (by decide) hf1 (by decide)
  have cb0 := Lib.hid fun (W : World) (x : IsT W (.slice A2 m2 c2) 128 N2) => xcmp_any false false t2 0 f2 0 x (nil_t W 128) ht2 (by decide) hf2 (by decide)
  clear h12 h21
  clear ca0 cb0
  obtain ⟨a0, a1, a2, a3⟩ := cells4R (hL.get (P := pBlk w.heap.size #[.bool false, .slice A1 m1 c1, .int .i64 t1, .int .i64 f1] 52) (by repeat (first | exact List.mem_cons_self | apply List.mem_cons_of_mem))); obtain ⟨b0, b1, b2, b3⟩ := cells4R (hL.get (P := pBlk (w.heap.size + 1) #[.bool false, .slice A2 m2 c2, .int .i64 t2, .int .i64 f2] 52) (by repeat (first | exact List.mem_cons_self | apply List.mem_cons_of_mem))); obtain ⟨d0, d1, d2, d3⟩ := cells4R (hL.get (P := pBlk (w.heap.size + 2) #[.bool false, .slice none 0 0, .int .i64 0, .int .i64 0] 52) (by repeat (first | exact List.mem_cons_self | apply List.mem_cons_of_mem)))
  go_enter Tryz.func25, Tryz.ntmps25
  go_wp2_with fail
  refine (cab.out _ (hL.get (P := pT (.slice A1 m1 c1) 128 N1) (by repeat (first | exact List.mem_cons_self | apply List.mem_cons_of_mem))) (hL.get (P := pT (.slice A2 m2 c2) 128 N2) (by repeat (first | exact List.mem_cons_self | apply List.mem_cons_of_mem)))).mono ?_
  rintro e w1 ⟨rfl, hb⟩
  go_wp2
  go_ret
  exact ⟨rfl, (hL.go hb).below⟩
  
set_option maxRecDepth 100000 in
set_option maxHeartbeats 4000000 in
theorem xcs_neg {w : World} {A1 A2 : Option Addr} {m1 m2 c1 c2 N1 N2 : Nat} (t1 t2 f1 f2 : Int) (h1 : IsT w (.slice A1 m1 c1) 128 N1) (h2 : IsT w (.slice A2 m2 c2) 128 N2)
    (ht1 : -5000 ≤ t1 ∧ t1 ≤ 5000) (ht2 : -5000 ≤ t2 ∧ t2 ≤ 5000) (hf1 : -5000 ≤ f1 ∧ f1 ≤ 5000) (hf2 : -5000 ≤ f2 ∧ f2 ≤ 5000) (hn : 0 < N1 ∧ 0 < N2)
    (h12 : exC N1 t1 f1 N2 t2 f2 = 0) (h21 : exC N2 t2 f2 N1 t1 f1 = 0) :
    Calls Tryz.prog 25 #[.agg #[.bool true, .slice A1 m1 c1, .int .i64 t1, .int .i64 f1], .agg #[.bool true, .slice A2 m2 c2, .int .i64 t2, .int .i64 f2]] w fun e w' => e = .returned (.int .i64 0) ∧ Below w.heap.size w w' := by
  have hb0 : Below w.heap.size w (((w.alloc (.cells #[.bool true, .slice A1 m1 c1, .int .i64 t1, .int .i64 f1] 52)).alloc (.cells #[.bool true, .slice A2 m2 c2, .int .i64 t2, .int .i64 f2] 52)).alloc (.cells #[.bool false, .slice none 0 0, .int .i64 0, .int .i64 0] 52)) := (((Below.refl _ _).alloc (Nat.le_refl _) _).alloc (by simp) _).alloc (by simp; omega) _
  have hL : LiveP w (((w.alloc (.cells #[.bool true, .slice A1 m1 c1, .int .i64 t1, .int .i64 f1] 52)).alloc (.cells #[.bool true, .slice A2 m2 c2, .int .i64 t2, .int .i64 f2] 52)).alloc (.cells #[.bool false, .slice none 0 0, .int .i64 0, .int .i64 0] 52)) [pT (.slice A2 m2 c2) 128 N2, pT (.slice A1 m1 c1) 128 N1, pBlk (w.heap.size + 2) #[.bool false, .slice none 0 0, .int .i64 0, .int .i64 0] 52, pBlk (w.heap.size + 1) #[.bool true, .slice A2 m2 c2, .int .i64 t2, .int .i64 f2] 52, pBlk w.heap.size #[.bool true, .slice A1 m1 c1, .int .i64 t1, .int .i64 f1] 52] := by
    have h3 := ((boxes2 w #[.bool true, .slice A1 m1 c1, .int .i64 t1, .int .i64 f1] #[.bool true, .slice A2 m2 c2, .int .i64 t2, .int .i64 f2] 52).go ((Below.refl _ _).alloc (Nat.le_refl _) (.cells #[.bool false, .slice none 0 0, .int .i64 0, .int .i64 0] 52))).put (pBlk_st _ _ _) (pBlk_madeR ((w.alloc (.cells #[.bool true, .slice A1 m1 c1, .int .i64 t1, .int .i64 f1] 52)).alloc (.cells #[.bool true, .slice A2 m2 c2, .int .i64 t2, .int .i64 f2] 52)) #[.bool false, .slice none 0 0, .int .i64 0, .int .i64 0] 52 (w.heap.size + 2) (by simp))
    exact (h3.put (pT_st (.slice A1 m1 c1) 128 N1) (h1.below hb0)).put (pT_st (.slice A2 m2 c2) 128 N2) (h2.below hb0)
  have cab := Lib.hid fun (W : World) (x : IsT W (.slice A1 m1 c1) 128 N1) (y : IsT W (.slice A2 m2 c2) 128 N2) => (show _ from by have h := xcmp_any true true t1 t2 f1 f2 x y ht1 ht2 hf1 hf2; rw [h12] at h; exact h)
  have cba := Lib.hid fun (W : World) (x : IsT W (.slice A1 m1 c1) 128 N1) (y : IsT W (.slice A2 m2 c2) 128 N2) => (show _ from by have h := xcmp_any true true t2 t1 f2 f1 y x ht2 ht1 hf2 hf1; rw [h21] at h; exact h)
  have ca0 := Lib.hid fun (W : World) (x : IsT W (.slice A1 m1 c1) 128 N1) => xcmp_any true false t1 0 f1 0 x (nil_t W 128) ht1 (by decide) hf1 (by decide)
  have cb0 := Lib.hid fun (W : World) (x : IsT W (.slice A2 m2 c2) 128 N2) => xcmp_any true false t2 0 f2 0 x (nil_t W 128) ht2 (by decide) hf2 (by decide)
  clear h12 h21
  obtain ⟨n1, n2⟩ := hn
  have e1 : exC N1 t1 f1 0 0 0 = 1 := by rw [exC_zero_r, cmpV_gt (a := (N1 : Int)) (b := 0) (by omega)]
  have e2 : exC N2 t2 f2 0 0 0 = 1 := by rw [exC_zero_r, cmpV_gt (a := (N2 : Int)) (b := 0) (by omega)]
  rw [e1] at ca0
  rw [e2] at cb0
  clear e1 e2
  obtain ⟨a0, a1, a2, a3⟩ := cells4R (hL.get (P := pBlk w.heap.size #[.bool true, .slice A1 m1 c1, .int .i64 t1, .int .i64 f1] 52) (by repeat (first | exact List.mem_cons_self | apply List.mem_cons_of_mem))); obtain ⟨b0, b1, b2, b3⟩ := cells4R (hL.get (P := pBlk (w.heap.size + 1) #[.bool true, .slice A2 m2 c2, .int .i64 t2, .int .i64 f2] 52) (by repeat (first | exact List.mem_cons_self | apply List.mem_cons_of_mem))); obtain ⟨d0, d1, d2, d3⟩ := cells4R (hL.get (P := pBlk (w.heap.size + 2) #[.bool false, .slice none 0 0, .int .i64 0, .int .i64 0] 52) (by repeat (first | exact List.mem_cons_self | apply List.mem_cons_of_mem)))
  go_enter Tryz.func25, Tryz.ntmps25
  go_wp2_with fail
  refine (ca0.out _ (hL.get (P := pT (.slice A1 m1 c1) 128 N1) (by repeat (first | exact List.mem_cons_self | apply List.mem_cons_of_mem)))).mono ?_
  rintro e w1 ⟨rfl, hb⟩
  have hL1 := hL.go hb
  clear hb a0 a1 a2 a3 b0 b1 b2 b3 d0 d1 d2 d3
  obtain ⟨a0, a1, a2, a3⟩ := cells4R (hL1.get (P := pBlk w.heap.size #[.bool true, .slice A1 m1 c1, .int .i64 t1, .int .i64 f1] 52) (by repeat (first | exact List.mem_cons_self | apply List.mem_cons_of_mem))); obtain ⟨b0, b1, b2, b3⟩ := cells4R (hL1.get (P := pBlk (w.heap.size + 1) #[.bool true, .slice A2 m2 c2, .int .i64 t2, .int .i64 f2] 52) (by repeat (first | exact List.mem_cons_self | apply List.mem_cons_of_mem))); obtain ⟨d0, d1, d2, d3⟩ := cells4R (hL1.get (P := pBlk (w.heap.size + 2) #[.bool false, .slice none 0 0, .int .i64 0, .int .i64 0] 52) (by repeat (first | exact List.mem_cons_self | apply List.mem_cons_of_mem)))
  go_wp2_with fail
  refine (cb0.out _ (hL1.get (P := pT (.slice A2 m2 c2) 128 N2) (by repeat (first | exact List.mem_cons_self | apply List.mem_cons_of_mem)))).mono ?_
  rintro e w2 ⟨rfl, hb⟩
  have hL2 := hL1.go hb
  clear hb a0 a1 a2 a3 b0 b1 b2 b3 d0 d1 d2 d3
  obtain ⟨a0, a1, a2, a3⟩ := cells4R (hL2.get (P := pBlk w.heap.size #[.bool true, .slice A1 m1 c1, .int .i64 t1, .int .i64 f1] 52) (by repeat (first | exact List.mem_cons_self | apply List.mem_cons_of_mem))); obtain ⟨b0, b1, b2, b3⟩ := cells4R (hL2.get (P := pBlk (w.heap.size + 1) #[.bool true, .slice A2 m2 c2, .int .i64 t2, .int .i64 f2] 52) (by repeat (first | exact List.mem_cons_self | apply List.mem_cons_of_mem))); obtain ⟨d0, d1, d2, d3⟩ := cells4R (hL2.get (P := pBlk (w.heap.size + 2) #[.bool false, .slice none 0 0, .int .i64 0, .int .i64 0] 52) (by repeat (first | exact List.mem_cons_self | apply List.mem_cons_of_mem)))
  go_wp2_with fail
  refine (cba.out _ (hL2.get (P := pT (.slice A1 m1 c1) 128 N1) (by repeat (first | exact List.mem_cons_self | apply List.mem_cons_of_mem))) (hL2.get (P := pT (.slice A2 m2 c2) 128 N2) (by repeat (first | exact List.mem_cons_self | apply List.mem_cons_of_mem)))).mono ?_
  rintro e w3 ⟨rfl, hb⟩
  go_wp2
  go_ret
  exact ⟨rfl, (hL2.go hb).below⟩
end Go.Proofs.YtehpneojiinmdaaGreatDoor
namespace Go.Proofs.YtehpneojiinmdaaGreatDoor
open Go.RowKit Go.Cal
/-- The difference of the two sums. -/
def difQ (U D : Nat) : Nat := if D ≤ U then U - D else D - U
theorem quS1 : quS 1 = 128 ∧ quL 1 = -48 := by decide +kernel
theorem top_end {U D i : Nat} (hi : i ≤ 60) (hU : U ≤ i * 2 ^ (quS 1 - 32)) (hD : D ≤ i * 2 ^ (quS 1 - 32)) :
    encQ 1 U D < 2 ^ quS 1 ∧ encQ 1 U D ≠ quN 1 ∧ quB 1 (encQ 1 U D) = decide (U < D) ∧ quA 1 (encQ 1 U D) = difQ U D := by
  have hs := quS1.1
  obtain ⟨X, hX⟩ : ∃ X, 2 ^ (quS 1 - 32) = X := ⟨_, rfl⟩
  have h3 : 2 ^ quS 1 = 4294967296 * X := by
    rw [← hX, hs]
  have h2 : 2 ^ (quS 1 - 1) = 2147483648 * X := by
    rw [← hX, hs]
  have hX0 : 0 < X := hX ▸ Nat.two_pow_pos _
  rw [hX] at hU hD
  have hU' : U ≤ 60 * X := Nat.le_trans hU (Nat.mul_le_mul_right _ hi)
  have hD' : D ≤ 60 * X := Nat.le_trans hD (Nat.mul_le_mul_right _ hi)
  obtain ⟨h5, h6⟩ := encQ_val (id := 1) (U := U) (D := D) (by decide) (by decide) (by omega) (by omega)
  exact ⟨encQ_lt (by omega) (by omega), encQ_nar (by decide) (by decide) (by omega) (by omega), h5, h6⟩
/-- Of the number held, and of the difference: one does not tell them apart. -/
def Fine (b : Bool) (Y : Nat) (t f : Int) (Z : Nat) : Prop := exC Y t f Z (-48) 0 = 0 ∧ exC Z (-48) 0 Y t f = 0 ∧ (-5000 ≤ t ∧ t ≤ 5000) ∧ (-5000 ≤ f ∧ f ≤ 5000) ∧ (b = true → 0 < Y)
theorem fine_of {b0 : Bool} {Y a b Z : Nat} {t f : Int} (hZ : Z < 2 ^ 128) (h : (Z = 0 ∧ Y = 0 ∧ t = 0 ∧ f = 0 ∧ b0 = false) ∨ (0 < Y ∧ Z = Y * 2 ^ a * 5 ^ b ∧ t = -48 + (a : Int) ∧ f = (b : Int))) : Fine b0 Y t f Z := by
  rcases h with ⟨rfl, rfl, rfl, rfl, rfl⟩ | ⟨y0, hz, rfl, rfl⟩
  · exact ⟨by rw [exC_zero_l]; exact cmpV_eq rfl, by rw [exC_zero_l]; exact cmpV_eq rfl, by decide, by decide, by simp⟩
  · have ha : a < 128 := by
      have h : 2 ^ a ≤ Z := by
        rw [hz]
        calc 2 ^ a ≤ Y * 2 ^ a := Nat.le_mul_of_pos_left _ y0
          _ ≤ Y * 2 ^ a * 5 ^ b := Nat.le_mul_of_pos_right _ (Nat.pow_pos (by decide))
      exact (Nat.pow_lt_pow_iff_right (a := 2) (by decide)).1 (Nat.lt_of_le_of_lt h hZ)
    have hb9 : b < 128 := by
      have h : 2 ^ b ≤ Z := by
        rw [hz]
        calc 2 ^ b ≤ 5 ^ b := Nat.pow_le_pow_left (by decide) _
          _ ≤ Y * 2 ^ a * 5 ^ b := Nat.le_mul_of_pos_left _ (Nat.mul_pos y0 (Nat.two_pow_pos _))
      exact (Nat.pow_lt_pow_iff_right (a := 2) (by decide)).1 (Nat.lt_of_le_of_lt h hZ)
    have hr := red_cross Y a b (-48)
    rw [← hz] at hr
    refine ⟨?_, ?_, ⟨by omega, by omega⟩, ⟨by omega, by omega⟩, fun _ => y0⟩
    · unfold exC; rw [hr]; exact cmpV_eq rfl
    · unfold exC; rw [hr]; exact cmpV_eq rfl
theorem dif_lt {U D i : Nat} (hi : i ≤ 60) (hU : U ≤ i * 2 ^ (quS 1 - 32)) (hD : D ≤ i * 2 ^ (quS 1 - 32)) : difQ U D < 2 ^ 128 := by
  obtain ⟨h1, -, -, h4⟩ := top_end hi hU hD
  rw [← h4]
  exact Nat.lt_of_lt_of_eq (quA_lt h1) (by rw [quS1.1])
theorem value_t {g U D i : Nat} {W : World} (hi : i ≤ 60) (hU : U ≤ i * 2 ^ (quS 1 - 32)) (hD : D ≤ i * 2 ^ (quS 1 - 32)) (hq : QuS g 1 (encQ 1 U D) W) :
    Calls Tryz.prog 23 #[.pointer (some ⟨g, 0, none⟩)] W fun e w' => ∃ (Y : Nat) (A : Option Addr) (n c : Nat) (t f : Int), e = .returned (.tuple #[.agg #[.bool (decide (U < D)), .slice A n c, .int .i64 t, .int .i64 f], .bool true]) ∧ IsT w' (.slice A n c) 128 Y ∧ Hid (Fine (decide (U < D)) Y t f (difQ U D)) ∧ Below W.heap.size W w' := by
  obtain ⟨h1, h2, h3, h4⟩ := top_end hi hU hD
  obtain ⟨A, n, c, hp, hv⟩ := hq
  refine (value_q (by decide) (by decide) h1 (((LiveP.start W).put (pBlk_st g #[.int .i64 (fK 1), .int .i64 (fW 1), .int .i64 (fM 1), .int .i64 (fB 1), .int .u64 (fT 1), .int .u64 (fI 1), .int .u64 (fN 1), .int .i64 1, .slice A n c] 104) hp).put (pT_st (.slice A n c) 16 _) hv)).mono ?_
  rintro e w' (⟨hn, -⟩ | ⟨-, Y, a, b, A', n', c', t, f, rfl, hv', hc, hb⟩)
  · exact absurd hn h2
  · rw [h3, h4, quS1.2] at hc
    exact ⟨Y, A', n', c', t, f, by rw [h3], hv', Lib.hid (fine_of (dif_lt hi hU hD) hc), hb⟩
theorem posit_t {g U D i : Nat} {W : World} (hi : i ≤ 60) (hU : U ≤ i * 2 ^ (quS 1 - 32)) (hD : D ≤ i * 2 ^ (quS 1 - 32)) (hW : VaW W) (hq : QuS g 1 (encQ 1 U D) W) :
    Calls Tryz.prog 26 #[.pointer (some ⟨g, 0, none⟩)] W fun e w' => e = .returned (.int .u64 (roundP 1 1 (decide (U < D)) (exP (difQ U D) (-48) 0) (exQ (-48) 0))) ∧ Below W.heap.size W w' := by
  obtain ⟨h1, h2, h3, h4⟩ := top_end hi hU hD
  obtain ⟨A, n, c, hp, hv⟩ := hq
  refine (posit_q (by decide) (by decide) h1 hW (((LiveP.start W).put (pBlk_st g #[.int .i64 (fK 1), .int .i64 (fW 1), .int .i64 (fM 1), .int .i64 (fB 1), .int .u64 (fT 1), .int .u64 (fI 1), .int .u64 (fN 1), .int .i64 1, .slice A n c] 104) hp).put (pT_st (.slice A n c) 16 _) hv)).mono ?_
  rintro e w' ⟨rfl, hb⟩
  refine ⟨?_, hb⟩
  unfold quP
  rw [if_neg h2, h3, h4, quS1.2]
end Go.Proofs.YtehpneojiinmdaaGreatDoor
