/- The laws of Parse: a number as text; a magnitude's number as text. Condition: the table of powers reads as it is laid. -/
import Derived.Test.YtdlkfnkmdlcekaaGreatDoorParH
import Derived.Test.YtdlkfnkmdlcekaaGreatDoorFo21
import Derived.Test.YtdlkfnkmdlcekaaGreatDoorFo22
namespace Go.Proofs.YtdlkfnkmdlcekaaGreatDoor
open Go.RowKit Go.Cal
set_option maxRecDepth 100000 in
set_option maxHeartbeats 1000000 in
/-- A number as text. -/
theorem numberP_any (n : Int) (hn : -100000 ≤ n ∧ n ≤ 100000) (w : World) (hT : Tab10 w) : Calls Tryz.prog 30 #[.int .i64 n] w fun e w' => e = .returned (.string (strL (numT n))) ∧ Below w.heap.size w w' := by
  obtain ⟨m, hm⟩ : ∃ m, n.natAbs = m := ⟨_, rfl⟩
  have hlen : (Lib.decDigits m).length ≤ 64 := dec_len_bound (k := 64) (by omega) (by omega)
  by_cases h0 : n < 0
  · have hm1 : -n = (m : Int) := by omega
    have hs : (⟨#[45]⟩ : ByteArray) ++ strL (Lib.decDigits m) = strL (numT n) := by
      have := strL_app [45] (Lib.decDigits m)
      unfold numT
      rw [if_pos h0, hm]
      exact this
    replace hm := Lib.hid hm
    go_enter Tryz.func30, Tryz.ntmps30
    go_wp2_with fail
    refine (of_t _ m (by omega)).mono ?_
    rintro e w1 ⟨v1, rfl, hv, hb⟩
    go_wp2_with fail
    refine (stext_t (hT.below hb) (IsT.isN hv) (by decide)).mono ?_
    rintro e w2 ⟨rfl, hb2⟩
    go_wp2
    go_ret
    exact ⟨by rw [← hs]; rfl, chain hb hb2⟩
  · have hm1 : n = (m : Int) := by omega
    have hs : strL (Lib.decDigits m) = strL (numT n) := by
      unfold numT
      rw [if_neg h0, hm]
    replace hm := Lib.hid hm
    subst hm1
    go_enter Tryz.func30, Tryz.ntmps30
    go_wp2_with fail
    refine (of_t _ m (by omega)).mono ?_
    rintro e w1 ⟨v1, rfl, hv, hb⟩
    go_wp2_with fail
    refine (stext_t (hT.below hb) (IsT.isN hv) (by decide)).mono ?_
    rintro e w2 ⟨rfl, hb2⟩
    go_wp2
    go_ret
    exact ⟨by rw [← hs]; rfl, chain hb hb2⟩

theorem sgn_app (neg : Bool) (D : List UInt8) : (if neg = true then (⟨#[45]⟩ : ByteArray) else ⟨#[]⟩) ++ strL D = strL ((if neg = true then [45] else []) ++ D) := by
  cases neg
  · exact strL_app [] D
  · exact strL_app [45] D
set_option maxRecDepth 100000 in
set_option maxHeartbeats 2000000 in
theorem hasT_any (neg : Bool) (m : Nat) (e : Int) (how : Bool) (hm : m < 18446744073709551616) (he : -2000 ≤ e ∧ e ≤ 2000) (w : World) (hT : Tab10 w) :
    Calls Tryz.prog 33 #[.bool neg, .int .u64 m, .int .i64 e, .bool how] w fun e' w' => e' = .returned (.string (strL (hasT neg m e how))) ∧ Below w.heap.size w w' := by
  obtain ⟨N, hN⟩ : ∃ N, hasM m e = N := ⟨_, rfl⟩
  have hl := (has_len hm he).1
  have hT0 : hasT neg m e how = (if neg = true then [45] else []) ++ Lib.decDigits N ++ (if 0 ≤ e then (if how = true then [46, 48, 48] else [48, 101, 45, 49]) else if how = true then 101 :: numT e else [48, 48, 48] ++ 101 :: numT (e - 3)) := by unfold hasT; rw [hN]
  rw [hT0]
  rw [hN] at hl
  have hs0 := sgn_app neg (Lib.decDigits N)
  obtain ⟨S, hS⟩ : ∃ S, (if neg = true then [45] else []) ++ Lib.decDigits N = S := ⟨_, rfl⟩
  have hSl : S.length ≤ 1991 := by rw [← hS, List.length_append]; cases neg <;> simp <;> omega
  rw [hS] at hs0 ⊢
  clear hT0
  have hSz := strL_size S
  obtain ⟨D, hD⟩ : ∃ D, strL (Lib.decDigits N) = D := ⟨_, rfl⟩
  have hDz : D.size = (Lib.decDigits N).length := by rw [← hD, strL_size]
  have htx := fun (w : World) (hT : Tab10 w) (v : Value) (k : Nat) (h : IsN w v k N) (hk : k ≤ 1048576) => stext_t hT h hk
  rw [show (⟨(Lib.decDigits N).toArray⟩ : ByteArray) = strL (Lib.decDigits N) from rfl, hD] at htx
  rw [hD] at hs0
  replace hD := Lib.hid hD
  replace hS := Lib.hid hS
  replace htx := Lib.hid htx
  have hL := LiveP.start w
  obtain ⟨he1, he2⟩ := he
  by_cases h0 : 0 ≤ e
  · rw [if_pos h0]
    have hNe : m * 2 ^ (min (max e 0) 131072).toNat = N := by
      rw [← hN]; unfold hasM; rw [if_pos h0]; congr 2; omega
    have hNw : N < 18446744073709551616 ^ 33 := by rw [← hNe]; exact shl_bnd 1 m _ 32 (by simpa using hm) (by omega)
    replace hNe := Lib.hid hNe
    replace hNw := Lib.hid hNw
    replace hN := Lib.hid hN
    have c1 : strL S ++ (⟨#[46, 48, 48]⟩ : ByteArray) = strL (S ++ [46, 48, 48]) := strL_app S [46, 48, 48]
    have c2 : strL S ++ (⟨#[48, 101, 45, 49]⟩ : ByteArray) = strL (S ++ [48, 101, 45, 49]) := strL_app S [48, 101, 45, 49]
    cases neg <;> cases how
    all_goals
      go_enter Tryz.func33, Tryz.ntmps33
      go_wp2_with fail; refine (of_t _ m hm).mono ?_; rintro ex w1 ⟨v1, rfl, hv, hb⟩; replace hL := (hL.go hb).put (pT_st _ _ _) hv; clear hb hv
      go_wp2_with fail; refine (shl_t e 33 N (IsT.isN (hL.get (P := pT v1 1 m) (by repeat (first | exact List.mem_cons_self | apply List.mem_cons_of_mem)))) (by decide) hNe.out hNw.out).mono ?_; rintro ex w1 ⟨v2, rfl, hv, hb⟩; replace hL := (hL.go hb).put (pT_st _ _ _) hv; clear hb hv
      go_wp2_with fail
      refine (htx.out _ (hT.below hL.below) _ _ (IsT.isN (hL.get (P := pT v2 33 N) (by repeat (first | exact List.mem_cons_self | apply List.mem_cons_of_mem)))) (by decide)).mono ?_
      rintro ex w1 ⟨rfl, hb⟩
      replace hL := hL.go hb
      clear hb
      go_wp2
      go_ret
      first
        | exact ⟨by rw [show (⟨#[]⟩ : ByteArray) ++ D = strL S from hs0, c1]; rfl, hL.below⟩
        | exact ⟨by rw [show (⟨#[]⟩ : ByteArray) ++ D = strL S from hs0, c2]; rfl, hL.below⟩
        | exact ⟨by rw [show (⟨#[45]⟩ : ByteArray) ++ D = strL S from hs0, c1]; rfl, hL.below⟩
        | exact ⟨by rw [show (⟨#[45]⟩ : ByteArray) ++ D = strL S from hs0, c2]; rfl, hL.below⟩
  · rw [if_neg h0]
    obtain ⟨a, ha⟩ : ∃ a, (-e).toNat = a := ⟨_, rfl⟩
    have hpa : (min (max (-e) 0) 10000).toNat = a := by omega
    have hNe : m * 5 ^ a = N := by rw [← hN]; unfold hasM; rw [if_neg h0, ha]
    have ha2 : a ≤ 2000 := by omega
    replace hNe := Lib.hid hNe
    replace hN := Lib.hid hN
    replace ha := Lib.hid ha
    have c1 : strL S ++ (⟨#[101]⟩ : ByteArray) ++ strL (numT e) = strL (S ++ 101 :: numT e) := by
      have := strL_app S [101]
      rw [show (⟨#[101]⟩ : ByteArray) = strL [101] from rfl, this, strL_app, List.append_assoc]; rfl
    have c2 : strL S ++ (⟨#[48, 48, 48, 101]⟩ : ByteArray) ++ strL (numT (e - 3)) = strL (S ++ ([48, 48, 48] ++ 101 :: numT (e - 3))) := by
      have := strL_app S [48, 48, 48, 101]
      rw [show (⟨#[48, 48, 48, 101]⟩ : ByteArray) = strL [48, 48, 48, 101] from rfl, this, strL_app, List.append_assoc]; rfl
    have hz1 : (strL (numT e)).size ≤ 21 := by rw [strL_size]; exact numT_len e (by omega)
    have hz2 : (strL (numT (e - 3))).size ≤ 21 := by rw [strL_size]; exact numT_len (e - 3) (by omega)
    cases neg <;> cases how
    all_goals
      go_enter Tryz.func33, Tryz.ntmps33
      go_wp2_with fail; refine (of_t _ m hm).mono ?_; rintro ex w1 ⟨v1, rfl, hv, hb⟩; replace hL := (hL.go hb).put (pT_st _ _ _) hv; clear hb hv
      go_wp2_with fail; refine (pow_t _ 5 (by decide) (-e) a hpa).mono ?_; rintro ex w1 ⟨v2, rfl, hv, hb⟩; replace hL := (hL.go hb).put (pT_st _ _ _) hv; clear hb hv
      go_wp2_with fail; refine (mul_t (IsT.isN (hL.get (P := pT v1 1 m) (by repeat (first | exact List.mem_cons_self | apply List.mem_cons_of_mem)))) (IsT.isN (hL.get (P := pT v2 (a + 1) (5 ^ a)) (by repeat (first | exact List.mem_cons_self | apply List.mem_cons_of_mem)))) (by decide) (by omega)).mono ?_; rintro ex w1 ⟨v3, rfl, hv, hb⟩; replace hL := (hL.go hb).put (pT_st _ _ _) hv; clear hb hv
      go_wp2_with fail
      refine (htx.out _ (hT.below hL.below) _ _ (hNe.out ▸ (IsT.isN (hL.get (P := pT v3 (1 + (a + 1)) (m * 5 ^ a)) (by repeat (first | exact List.mem_cons_self | apply List.mem_cons_of_mem))))) (by omega)).mono ?_
      rintro ex w1 ⟨rfl, hb⟩
      replace hL := hL.go hb
      clear hb
      go_wp2_with fail
      refine (numberP_any _ (by omega) _ (hT.below hL.below)).mono ?_
      rintro ex w1 ⟨rfl, hb⟩
      replace hL := hL.go hb
      clear hb
      go_wp2
      go_ret
      first
        | exact ⟨by rw [show (⟨#[]⟩ : ByteArray) ++ D = strL S from hs0, c1]; rfl, hL.below⟩
        | exact ⟨by rw [show (⟨#[]⟩ : ByteArray) ++ D = strL S from hs0, c2]; rfl, hL.below⟩
        | exact ⟨by rw [show (⟨#[45]⟩ : ByteArray) ++ D = strL S from hs0, c1]; rfl, hL.below⟩
        | exact ⟨by rw [show (⟨#[45]⟩ : ByteArray) ++ D = strL S from hs0, c2]; rfl, hL.below⟩
end Go.Proofs.YtdlkfnkmdlcekaaGreatDoor
