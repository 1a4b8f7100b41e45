/- The law ParseRounds, walked. Conditions: the variables that values read; the table of powers reads as it is laid. -/
import Derived.Test.YtdlkfnkmdlcekaaGreatDoorNumP
import Derived.Test.YtdlkfnkmdlcekaaGreatDoorFo31
namespace Go.Proofs.YtdlkfnkmdlcekaaGreatDoor
open Go.RowKit Go.Cal
theorem slice_nat (A : Option Addr) (n c : Nat) (k : Int) (w : World) (h0 : 0 ≤ k) (h1 : k ≤ c) : (Instr.slice 53 (.slice A n c) none (some (.int .i64 k)) none).run Tryz.prog w = .ok (.slice A k.toNat c) w := by
  have hu : Tryz.prog.underlying 53 = some (.slice (Tryz.prog.elem 53)) := by kernel_rfl
  have ha : ∀ a : Addr, a.add 0 = a := fun a => by cases a; unfold Addr.add; split <;> simp_all
  rw [run_slice_h _ _ _ _ _ hu .i64 k h0 h1]
  obtain ⟨i, hi, hz0, hz1, hz2⟩ := info_parts info_u64
  have he : Tryz.prog.elem 53 = 22 := by kernel_rfl
  have hs : (sizeOf (Tryz.prog.elem 53)).run Tryz.prog w = .ok 1 w := by
    rw [he]; simp [sizeOf, typeInfo, hi, hz1]
  rw [hs]
  simp [Result.andThen, sliced, ha]
set_option maxRecDepth 100000 in
set_option maxHeartbeats 2000000 in
theorem parseRounds_any (id mode : Int) (neg : Bool) (d : Value) (k : Int) (w : World) (hW : VaW w) (hT : Tab10 w) (ha : ArgN w d) : Calls Tryz.prog 9 #[.int .i64 id, .int .i64 mode, .bool neg, d, .int .i64 k] w fun e w' => e = .returned (.bool true) ∧ Below w.heap.size w w' := by
  have hsh := Lib.hid fun w hW => pshown_any w hW
  obtain ⟨A, c, xs, rfl, g1, g2, g3, g4, g5⟩ := ha
  obtain ⟨m, hm⟩ : ∃ m, min xs.length 10 = m := ⟨_, rfl⟩
  have hmi : min (xs.length : Int) 10 = (m : Int) := by omega
  have hmc : (m : Int) ≤ (c : Int) := by omega
  have hsl := fun w => slice_nat A xs.length c (m : Int) w (by omega) hmc
  simp only [Int.toNat_natCast] at hsl
  have hml : (xs.take m).length = m := by rw [List.length_take]; omega
  have hN : IsN w (.slice A m c) 10 (vl 18446744073709551616 (xs.take m)) := ⟨A, c, xs.take m, by rw [hml], g1.take m, by omega, by omega, dig_take g5 m, rfl⟩
  obtain ⟨N, hNN⟩ : ∃ N, vl 18446744073709551616 (xs.take m) = N := ⟨_, rfl⟩
  rw [hNN] at hN
  have hNlt := hN.lt
  clear hNN g5 g2 g3
  unfold maxLen at g4
  replace hm := Lib.hid hm
  replace hml := Lib.hid hml
  have hL := (LiveP.start w).put (pN_st (.slice A m c) 10 N) hN
  obtain ⟨K, hK⟩ : ∃ K, k.tmod 901 = K := ⟨_, rfl⟩
  have hKb : -900 ≤ K ∧ K ≤ 900 := by
    have := Int.tmod_lt_of_pos k (show (0 : Int) < 901 by decide)
    have h2 := Int.lt_tmod_of_pos k (show (0 : Int) < 901 by decide)
    omega
  obtain ⟨P, hP⟩ : ∃ P, exP N K K = P := ⟨_, rfl⟩
  obtain ⟨Q, hQ⟩ : ∃ Q, exQ K K = Q := ⟨_, rfl⟩
  have hdl : (Lib.decDigits N).length ≤ 193 := dec_lenH (by decide) (Nat.lt_of_lt_of_le hNlt (by decide +kernel))
  obtain ⟨hpq, ⟨hik, hin⟩, hbig⟩ := par_ten (id := id) (mode := mode) (neg := neg) hKb (show (Lib.decDigits N).length ≤ 1990 by omega)
  have htok := (tenT_text neg N K 1125899906842624 (by omega)).1
  have hn1 := numT_len K (by omega)
  have hn2 := numT_len (K - 3) (by omega)
  have hrd := fun (W : World) A n c (hW : VaW W) (hv : IsT W (.slice A n c) 128 N) => rround_any id mode neg K K hW hv (by omega) (by omega)
  rw [hP, hQ] at hbig hrd
  obtain ⟨S, hS⟩ : ∃ S, (if neg = true then [45] else []) ++ Lib.decDigits N = S := ⟨_, rfl⟩
  have hSl : S.length ≤ 194 := by rw [← hS, List.length_append]; cases neg <;> simp <;> omega
  obtain ⟨T2, hT2⟩ : ∃ T, tenT neg N K = T := ⟨_, rfl⟩
  obtain ⟨U2, hU2⟩ : ∃ U, tenU neg N (K - 3) = U := ⟨_, rfl⟩
  obtain ⟨T1, hT1⟩ : ∃ T, S ++ [101] = T := ⟨_, rfl⟩
  obtain ⟨U1, hU1⟩ : ∃ U, S ++ [48, 48, 48, 69] = U := ⟨_, rfl⟩
  have c1 : strL S ++ (⟨#[101]⟩ : ByteArray) = strL T1 := by rw [← hT1]; exact strL_app S [101]
  have c2 : strL T1 ++ strL (numT K) = strL T2 := by rw [strL_app, ← hT1, ← hT2]; unfold tenT; rw [hS, List.append_assoc]; rfl
  have d1 : strL S ++ (⟨#[48, 48, 48, 69]⟩ : ByteArray) = strL U1 := by rw [← hU1]; exact strL_app S [48, 48, 48, 69]
  have d2 : strL U1 ++ strL (numT (K - 3)) = strL U2 := by rw [strL_app, ← hU1, ← hU2]; unfold tenU; rw [hS, List.append_assoc, List.append_assoc]; rfl
  have z0 := strL_size S
  have z1 := strL_size T1
  have z2 := strL_size U1
  have z3 := strL_size (numT K)
  have z4 := strL_size (numT (K - 3))
  have l1 : T1.length ≤ 200 := by rw [← hT1, List.length_append]; simp; omega
  have l2 : U1.length ≤ 200 := by rw [← hU1, List.length_append]; simp; omega
  have l3 : T2.length ≤ 300 := by
    have := congrArg ByteArray.size c2
    rw [strL_app, strL_size, strL_size, List.length_append] at this
    omega
  have l4 : U2.length ≤ 300 := by
    have := congrArg ByteArray.size d2
    rw [strL_app, strL_size, strL_size, List.length_append] at this
    omega
  rw [hT2, hU2] at hpq
  rw [hT2] at hik hin hbig htok
  obtain ⟨DB, hDB⟩ : ∃ D, strL (Lib.decDigits N) = D := ⟨_, rfl⟩
  have htx := fun (w : World) (hT : Tab10 w) (v : Value) (k : Nat) (h : IsN w v k N) (hk : k ≤ 1048576) => stext_t hT h hk
  rw [show (⟨(Lib.decDigits N).toArray⟩ : ByteArray) = strL (Lib.decDigits N) from rfl, hDB] at htx
  have hDz : DB.size = (Lib.decDigits N).length := by rw [← hDB, strL_size]
  have hs0 : (neg = true ∧ (⟨#[45]⟩ : ByteArray) ++ DB = strL S) ∨ (neg = false ∧ DB = strL S) := by
    cases neg
    · right; refine ⟨rfl, ?_⟩; rw [← hS, ← hDB]; rfl
    · left; refine ⟨rfl, ?_⟩; rw [← hS, ← hDB]; exact strL_app [45] _
  have hp1 := fun w hW => ptext_any id mode T2 (by omega) w hW
  have hp2 := fun w hW => ptext_any id mode U2 (by omega) w hW
  rw [hpq] at hp2
  obtain ⟨it, hit⟩ : ∃ it, textV 1125899906842624 T2 = it := ⟨_, rfl⟩
  rw [hit] at hbig
  have hcv := fun w => run_bytes_of_string (P := Tryz.prog) w 9 66 5 (strL T2) sunder_str sunder_bytes sunder_byte
  have hszT := strL_size T2
  simp only [hszT] at hcv
  have hRR : roundR id mode neg P Q = if roundE id mode ≠ 0 then 0 else roundP id mode neg P Q := by
    unfold roundR
    by_cases h : roundE id mode = 0
    · rw [if_pos h, if_neg (by rw [h]; decide)]
    · rw [if_neg h, if_pos h]
  rw [← hRR] at hbig
  generalize roundR id mode neg P Q = RR at hbig hrd
  generalize roundE id mode = RE at hbig hrd
  obtain ⟨pv, hpv⟩ : ∃ pv, parV id mode T2 = pv := ⟨_, rfl⟩
  rw [hpv] at hp1 hp2 hbig
  obtain ⟨q, n, f⟩ := pv
  replace hp1 := Lib.hid hp1
  replace hp2 := Lib.hid hp2
  replace hS := Lib.hid hS
  replace hT1 := Lib.hid hT1
  replace hT2 := Lib.hid hT2
  replace hU1 := Lib.hid hU1
  replace hU2 := Lib.hid hU2
  replace hDB := Lib.hid hDB
  replace hit := Lib.hid hit
  replace hpv := Lib.hid hpv
  replace htok := Lib.hid htok
  clear hik hin hpq hRR hP hQ
  replace hrd := Lib.hid hrd
  replace htx := Lib.hid htx
  rcases hs0 with ⟨rfl, s0⟩ | ⟨rfl, rfl⟩
  · go_enter Tryz.func9, Tryz.ntmps9
    go_wp2_with fail; refine ((hsh.out _ hW)).mono ?_; rintro ex w1 ⟨rfl, hb⟩; replace hL := hL.go hb; clear hb
    go_wp2_with fail; refine (norm_t (IsN.below (hL.get (P := pN (.slice A m c) 10 N) (by repeat (first | exact List.mem_cons_self | apply List.mem_cons_of_mem))) (Below.refl _ _)) (by decide)).mono ?_; rintro ex w1 ⟨v1, rfl, hv, hb⟩; replace hL := (hL.go hb).put (pT_st _ _ _) hv; clear hb hv
    go_wp2_with fail; refine (xdec_yes true K (IsT.isN (hL.get (P := pT v1 10 N) (by repeat (first | exact List.mem_cons_self | apply List.mem_cons_of_mem)))) (by decide) (less_words hNlt (by decide)) (by omega)).mono ?_; rintro ex w1 ⟨xv, rfl, hv, hb⟩; obtain ⟨Ax, cx, zx, rfl, -⟩ := _root_.id hv; obtain ⟨nx, hnx⟩ : ∃ nx, zx.length = nx := ⟨_, rfl⟩; rw [hnx] at hv ⊢; clear hnx; replace hL := (hL.go hb).put (pT_st _ _ _) hv; clear hb hv
    go_wp2_with fail
    have hx := pBlk_made w1 #[.bool true, .slice Ax nx cx, .int .i64 K, .int .i64 K] 56
    replace hL := (hL.go ((Below.refl _ _).alloc (Nat.le_refl _) (.cells #[.bool true, .slice Ax nx cx, .int .i64 K, .int .i64 K] 56))).put (pBlk_st _ _ _) hx
    refine (htx.out _ (hT.below hL.below) _ _ (IsT.isN (hL.get (P := pT v1 10 N) (by repeat (first | exact List.mem_cons_self | apply List.mem_cons_of_mem)))) (by decide)).mono ?_
    rintro ex w2 ⟨rfl, hb⟩
    replace hL := hL.go hb
    clear hb hx
    obtain ⟨r0, r1, r2, r3⟩ := cells4 (hL.get (P := pBlk w1.heap.size #[.bool true, .slice Ax nx cx, .int .i64 K, .int .i64 K] 56) (by repeat (first | exact List.mem_cons_self | apply List.mem_cons_of_mem)))
    go_wp2_with fail
    refine (hrd.out _ _ _ _ (hW.below hL.below) (hL.get (P := pT (.slice Ax nx cx) 128 N) (by repeat (first | exact List.mem_cons_self | apply List.mem_cons_of_mem)))).mono ?_
    rintro ex w3 ⟨rfl, hb⟩
    replace hL := hL.go hb
    clear hb r0 r1 r2 r3
    go_wp2_with fail; refine ((numberP_any K (by omega) _ (hT.below hL.below))).mono ?_; rintro ex w1 ⟨rfl, hb⟩; replace hL := hL.go hb; clear hb
    go_wp2_with fail; refine ((hp1.out _ (hW.below hL.below))).mono ?_; rintro ex w1 ⟨rfl, hb⟩; replace hL := hL.go hb; clear hb
    go_wp2_with fail; refine ((numberP_any (K - 3) (by omega) _ (hT.below hL.below))).mono ?_; rintro ex w1 ⟨rfl, hb⟩; replace hL := hL.go hb; clear hb
    go_wp2_with fail; refine ((hp2.out _ (hW.below hL.below))).mono ?_; rintro ex w1 ⟨rfl, hb⟩; replace hL := hL.go hb; clear hb
    go_wp2_with fail; refine ((numberP_any K (by omega) _ (hT.below hL.below))).mono ?_; rintro ex w1 ⟨rfl, hb⟩; replace hL := hL.go hb; clear hb
    go_wp2_with fail
    refine (scan_any T2 _ _ (rd_bytes1 w1 T2 _ _) (by omega)).mono ?_
    rintro e w4 ⟨hcase, hb⟩
    rcases hcase with ⟨_, v, rfl, hitm⟩ | ⟨h0, _⟩
    case inr => rw [htok.out] at h0; cases h0
    rw [hit.out] at hitm
    obtain ⟨A3, c3, zs, rfl, -⟩ := hitm
    obtain ⟨n3, hn3⟩ : ∃ n, zs.length = n := ⟨_, rfl⟩
    rw [hn3]
    clear hn3
    have hbw : Below w1.heap.size w1 w4 := ((Below.refl _ _).alloc (Nat.le_refl _) _).drew.trans (hb.mono (by simp))
    replace hL := hL.go hbw
    clear hb hbw
    rcases hbig with hb1 | ⟨hb1, hb2⟩
    · have hb1' : (it.big != 0) = true := by simp [hb1]
      go_wp2
      go_ret
      exact ⟨by first | rfl | simp, (hL.go ((Below.refl _ _).alloc (Nat.le_refl _) _)).below⟩
    · have hb1' : (it.big != 0) = false := by simp [hb1]
      injection hb2 with e1 e2
      injection e2 with e2 e3
      subst e1 e2 e3
      go_wp2
      go_ret
      exact ⟨by first | rfl | simp, (hL.go ((Below.refl _ _).alloc (Nat.le_refl _) _)).below⟩
  · go_enter Tryz.func9, Tryz.ntmps9
    go_wp2_with fail; refine ((hsh.out _ hW)).mono ?_; rintro ex w1 ⟨rfl, hb⟩; replace hL := hL.go hb; clear hb
    go_wp2_with fail; refine (norm_t (IsN.below (hL.get (P := pN (.slice A m c) 10 N) (by repeat (first | exact List.mem_cons_self | apply List.mem_cons_of_mem))) (Below.refl _ _)) (by decide)).mono ?_; rintro ex w1 ⟨v1, rfl, hv, hb⟩; replace hL := (hL.go hb).put (pT_st _ _ _) hv; clear hb hv
    go_wp2_with fail; refine (xdec_yes false K (IsT.isN (hL.get (P := pT v1 10 N) (by repeat (first | exact List.mem_cons_self | apply List.mem_cons_of_mem)))) (by decide) (less_words hNlt (by decide)) (by omega)).mono ?_; rintro ex w1 ⟨xv, rfl, hv, hb⟩; obtain ⟨Ax, cx, zx, rfl, -⟩ := _root_.id hv; obtain ⟨nx, hnx⟩ : ∃ nx, zx.length = nx := ⟨_, rfl⟩; rw [hnx] at hv ⊢; clear hnx; replace hL := (hL.go hb).put (pT_st _ _ _) hv; clear hb hv
    go_wp2_with fail
    have hx := pBlk_made w1 #[.bool false, .slice Ax nx cx, .int .i64 K, .int .i64 K] 56
    replace hL := (hL.go ((Below.refl _ _).alloc (Nat.le_refl _) (.cells #[.bool false, .slice Ax nx cx, .int .i64 K, .int .i64 K] 56))).put (pBlk_st _ _ _) hx
    refine (htx.out _ (hT.below hL.below) _ _ (IsT.isN (hL.get (P := pT v1 10 N) (by repeat (first | exact List.mem_cons_self | apply List.mem_cons_of_mem)))) (by decide)).mono ?_
    rintro ex w2 ⟨rfl, hb⟩
    replace hL := hL.go hb
    clear hb hx
    obtain ⟨r0, r1, r2, r3⟩ := cells4 (hL.get (P := pBlk w1.heap.size #[.bool false, .slice Ax nx cx, .int .i64 K, .int .i64 K] 56) (by repeat (first | exact List.mem_cons_self | apply List.mem_cons_of_mem)))
    go_wp2_with fail
    refine (hrd.out _ _ _ _ (hW.below hL.below) (hL.get (P := pT (.slice Ax nx cx) 128 N) (by repeat (first | exact List.mem_cons_self | apply List.mem_cons_of_mem)))).mono ?_
    rintro ex w3 ⟨rfl, hb⟩
    replace hL := hL.go hb
    clear hb r0 r1 r2 r3
    go_wp2_with fail; refine ((numberP_any K (by omega) _ (hT.below hL.below))).mono ?_; rintro ex w1 ⟨rfl, hb⟩; replace hL := hL.go hb; clear hb
    go_wp2_with fail; refine ((hp1.out _ (hW.below hL.below))).mono ?_; rintro ex w1 ⟨rfl, hb⟩; replace hL := hL.go hb; clear hb
    go_wp2_with fail; refine ((numberP_any (K - 3) (by omega) _ (hT.below hL.below))).mono ?_; rintro ex w1 ⟨rfl, hb⟩; replace hL := hL.go hb; clear hb
    go_wp2_with fail; refine ((hp2.out _ (hW.below hL.below))).mono ?_; rintro ex w1 ⟨rfl, hb⟩; replace hL := hL.go hb; clear hb
    go_wp2_with fail; refine ((numberP_any K (by omega) _ (hT.below hL.below))).mono ?_; rintro ex w1 ⟨rfl, hb⟩; replace hL := hL.go hb; clear hb
    go_wp2_with fail
    refine (scan_any T2 _ _ (rd_bytes1 w1 T2 _ _) (by omega)).mono ?_
    rintro e w4 ⟨hcase, hb⟩
    rcases hcase with ⟨_, v, rfl, hitm⟩ | ⟨h0, _⟩
    case inr => rw [htok.out] at h0; cases h0
    rw [hit.out] at hitm
    obtain ⟨A3, c3, zs, rfl, -⟩ := hitm
    obtain ⟨n3, hn3⟩ : ∃ n, zs.length = n := ⟨_, rfl⟩
    rw [hn3]
    clear hn3
    have hbw : Below w1.heap.size w1 w4 := ((Below.refl _ _).alloc (Nat.le_refl _) _).drew.trans (hb.mono (by simp))
    replace hL := hL.go hbw
    clear hb hbw
    rcases hbig with hb1 | ⟨hb1, hb2⟩
    · have hb1' : (it.big != 0) = true := by simp [hb1]
      go_wp2
      go_ret
      exact ⟨by first | rfl | simp, (hL.go ((Below.refl _ _).alloc (Nat.le_refl _) _)).below⟩
    · have hb1' : (it.big != 0) = false := by simp [hb1]
      injection hb2 with e1 e2
      injection e2 with e2 e3
      subst e1 e2 e3
      go_wp2
      go_ret
      exact ⟨by first | rfl | simp, (hL.go ((Below.refl _ _).alloc (Nat.le_refl _) _)).below⟩
end Go.Proofs.YtdlkfnkmdlcekaaGreatDoor
