/- What is proved: the statement LayoutWholes: whatever the input, the call tells true and the arguments read as they did. Condition: the package-level tables read as the program's text lays them, which the card ties. -/
/- The law LayoutWholes, walked. Conditions: the variables that the library reads. -/
import Derived.Test.YtjhdkdfiadlmcaaGreatDoorLyCom
import Derived.Deep.LoopGhost
namespace Go.Proofs.YtjhdkdfiadlmcaaGreatDoor
open Go.RowKit Go.Cal
/-- A number without the noughts at its end. -/
theorem tens_of (n : Nat) (hn : n < 18446744073709551616) : ∃ D K : Nat, D * 10 ^ K = n ∧ (D = 0 → K = 0) ∧ (0 < D → D % 10 ≠ 0) ∧ K ≤ 20 := by
  have key : ∀ n : Nat, ∃ D K : Nat, D * 10 ^ K = n ∧ (D = 0 → K = 0) ∧ (0 < D → D % 10 ≠ 0) := by
    intro n
    induction n using Nat.strongRecOn with
    | ind n ih =>
      by_cases h0 : n = 0
      · exact ⟨0, 0, by omega, fun _ => rfl, fun h => by omega⟩
      · by_cases h1 : n % 10 = 0
        · obtain ⟨D, K, e1, e2, e3⟩ := ih (n / 10) (by omega)
          refine ⟨D, K + 1, ?_, fun h => ?_, e3⟩
          · rw [Nat.pow_succ, ← Nat.mul_assoc, e1]; omega
          · subst h; rw [Nat.zero_mul] at e1; omega
        · exact ⟨n, 0, by simp, fun h => absurd h h0, fun _ => h1⟩
  obtain ⟨D, K, e1, e2, e3⟩ := key n
  refine ⟨D, K, e1, e2, e3, ?_⟩
  rcases Nat.eq_zero_or_pos D with h | h
  · have := e2 h; omega
  · rcases Nat.lt_or_ge 20 K with h1 | h1
    · have h2 : 10 ^ 21 ≤ 10 ^ K := Nat.pow_le_pow_right (by decide) h1
      have h3 : 1 * 10 ^ K ≤ D * 10 ^ K := Nat.mul_le_mul_right _ h
      have h4 : 18446744073709551616 < 10 ^ 21 := by decide
      omega
    · exact h1
set_option maxRecDepth 100000 in
set_option maxHeartbeats 4000000 in
theorem layoutWholes_any (n : Int) (neg : Bool) (w : World) (hW : LyW w) (hn : 0 ≤ n ∧ n ≤ 18446744073709551615) :
    Calls Tryz.prog 7 #[.int .u64 n, .bool neg] w fun e w' => e = .returned (.bool true) ∧ Below w.heap.size w w' := by
  obtain ⟨N, rfl⟩ := Int.eq_ofNat_of_zero_le hn.1
  have hN : N < 18446744073709551616 := by omega
  obtain ⟨D, K, hDK, hD0, hD1, hK⟩ := tens_of N hN
  have hD : D < 18446744073709551616 := by
    have : D * 1 ≤ D * 10 ^ K := Nat.mul_le_mul_left _ (Nat.pow_pos (by decide))
    omega
  obtain ⟨hr, hly0⟩ := lyS_whole hDK hD0 hD1 hN
  obtain ⟨S, hS⟩ : ∃ S, Lib.decDigits N = S := ⟨_, rfl⟩
  rw [hS] at hly0
  have hSl : S.length ≤ 20 := by rw [← hS]; exact (padd_dec 20 N (by decide) (by omega)).2
  have hun := unS_lyT neg hr
  have hR : lyR neg D K = lyT neg D K := by unfold lyR; rw [if_pos hr]
  have hT : lyT neg D K = (if neg = true then [45] else []) ++ S := by unfold lyT; rw [hly0]
  rw [hT] at hun hR
  have hcat : (⟨#[45]⟩ : ByteArray) ++ strL S = strL (45 :: S) := strL_app [45] S
  have hsz := strL_size S
  obtain ⟨z, hz⟩ : ∃ z, S.length = z := ⟨_, rfl⟩
  rw [hz] at hsz hSl
  clear hn hr hly0 hT
  replace hun := Lib.hid hun
  replace hR := Lib.hid hR
  replace hS := Lib.hid hS
  replace hz := Lib.hid hz
  have hL := LiveP.start w
  go_enter Tryz.func7, Tryz.ntmps7
  go_wp2_with fail
  refine (lshown_any _ hW).mono ?_
  rintro e w1 ⟨rfl, hb⟩
  replace hL := hL.go hb
  clear hb
  go_wp2
  go_loopg [6, 7] K (fun g dv kv wr => ∃ i x : Nat, i + g = K ∧ x = D * 10 ^ g ∧ dv = .int .u64 x ∧ kv = .int .i64 i ∧ w1 = wr)
  case atStart => exact ⟨0, N, by omega, hDK.symm, rfl, rfl, rfl⟩
  case round =>
    obtain ⟨i, x, hik, hx, rfl, rfl, rfl⟩ := hrel
    by_cases hk0 : gk = 0
    · subst hk0
      obtain rfl : K = i := by omega
      obtain rfl : D = x := by rw [hx]; simp
      clear hx hik
      have hex : D = 0 ∨ (0 < D ∧ ¬ D % 10 = 0) := by
        rcases Nat.eq_zero_or_pos D with h | h
        · exact .inl h
        · exact .inr ⟨h, hD1 h⟩
      have hex2 : (¬ (0 : Int) < D) ∨ ((0 : Int) < D ∧ ((D : Int) % 10 == 0) = false) := by
        rcases hex with h | ⟨h, h1⟩
        · exact .inl (by omega)
        · refine .inr ⟨by omega, ?_⟩
          rw [beq_eq_false_iff_ne]
          omega
      clear hex hDK hD0 hD1
      rcases hex2 with hx1 | ⟨hx1, hx2⟩
      all_goals
        cases neg
        · rw [if_neg (by decide), List.nil_append] at hun hR
          have hWl : S.length ≤ 300000 := by have := hz.out; omega
          go_wp2_with fail
          refine (of_t _ N hN).mono ?_
          rintro e w2 ⟨v, rfl, hv, hb⟩
          replace hL := (hL.go hb).put (pT_st _ _ _) hv
          clear hb hv
          have htx := stext_t (hW.below hL.below).tab (IsT.isN (hL.get (P := pT v 1 N) (by repeat (first | exact List.mem_cons_self | apply List.mem_cons_of_mem)))) (by decide)
          rw [show (⟨(Lib.decDigits N).toArray⟩ : ByteArray) = strL (Lib.decDigits N) from rfl, hS.out] at htx
          replace htx := Lib.hid htx
          go_wp2_with fail
          refine htx.out.mono ?_
          rintro e w3 ⟨rfl, hb⟩
          replace hL := hL.go hb
          clear hb htx
          go_wp2_with fail
          refine (of_t _ D hD).mono ?_
          rintro e w4 ⟨u, rfl, hu, hb⟩
          have hu' := isT_more hu (show 1 ≤ 128 by decide)
          obtain ⟨A, c, zs, rfl, -⟩ := id hu
          obtain ⟨m, hm⟩ : ∃ n, zs.length = n := ⟨_, rfl⟩
          rw [hm] at hu' ⊢
          replace hL := (hL.go hb).put (pT_st _ _ _) hu'
          replace hL := (hL.go ((Below.refl _ _).alloc (Nat.le_refl _) (.cells #[.bool false, .slice A m c, .int .i64 (K : Int)] 25))).put (pBlk_st _ _ _) (pBlk_made w4 _ 25)
          clear hb hu hu' hm
          go_wp2_with fail
          refine (unlay_is _ hWl false D K hun.out _ (hW.below hL.below)).mono ?_
          rintro e w5 ⟨u2, rfl, hu, hb⟩
          obtain ⟨A2, c2, zs2, rfl, -⟩ := id hu
          obtain ⟨m2, hm2⟩ : ∃ n, zs2.length = n := ⟨_, rfl⟩
          rw [hm2] at hu ⊢
          replace hL := (hL.go hb).put (pT_st _ _ _) hu
          replace hL := (hL.go ((Below.refl _ _).alloc (Nat.le_refl _) (.cells #[.bool false, .slice A2 m2 c2, .int .i64 (K : Int)] 25))).put (pBlk_st _ _ _) (pBlk_made w5 _ 25)
          clear hb hu hm2
          have q0 := (hL.get (P := pBlk w4.heap.size #[.bool false, .slice A m c, .int .i64 (K : Int)] 25) (by repeat (first | exact List.mem_cons_self | apply List.mem_cons_of_mem))).cell 0 _ rfl
          have q1 := (hL.get (P := pBlk w4.heap.size #[.bool false, .slice A m c, .int .i64 (K : Int)] 25) (by repeat (first | exact List.mem_cons_self | apply List.mem_cons_of_mem))).cell 1 _ rfl
          have q2 := (hL.get (P := pBlk w4.heap.size #[.bool false, .slice A m c, .int .i64 (K : Int)] 25) (by repeat (first | exact List.mem_cons_self | apply List.mem_cons_of_mem))).cell 2 _ rfl
          have hly := layout_any false (K : Int) (hW.below hL.below).tab (hL.get (P := pT (.slice A m c) 128 D) (by repeat (first | exact List.mem_cons_self | apply List.mem_cons_of_mem)))
          rw [hR.out] at hly
          replace hly := Lib.hid hly
          go_wp2_with fail
          refine hly.out.mono ?_
          rintro e w6 ⟨rfl, hb⟩
          replace hL := hL.go hb
          clear hb hly q0 q1 q2
          have q0 := (hL.get (P := pBlk w4.heap.size #[.bool false, .slice A m c, .int .i64 (K : Int)] 25) (by repeat (first | exact List.mem_cons_self | apply List.mem_cons_of_mem))).cell 0 _ rfl
          have q1 := (hL.get (P := pBlk w4.heap.size #[.bool false, .slice A m c, .int .i64 (K : Int)] 25) (by repeat (first | exact List.mem_cons_self | apply List.mem_cons_of_mem))).cell 1 _ rfl
          have q2 := (hL.get (P := pBlk w4.heap.size #[.bool false, .slice A m c, .int .i64 (K : Int)] 25) (by repeat (first | exact List.mem_cons_self | apply List.mem_cons_of_mem))).cell 2 _ rfl
          have r0 := (hL.get (P := pBlk w5.heap.size #[.bool false, .slice A2 m2 c2, .int .i64 (K : Int)] 25) (by repeat (first | exact List.mem_cons_self | apply List.mem_cons_of_mem))).cell 0 _ rfl
          have r1 := (hL.get (P := pBlk w5.heap.size #[.bool false, .slice A2 m2 c2, .int .i64 (K : Int)] 25) (by repeat (first | exact List.mem_cons_self | apply List.mem_cons_of_mem))).cell 1 _ rfl
          have r2 := (hL.get (P := pBlk w5.heap.size #[.bool false, .slice A2 m2 c2, .int .i64 (K : Int)] 25) (by repeat (first | exact List.mem_cons_self | apply List.mem_cons_of_mem))).cell 2 _ rfl
          have hsm := lsame_t false false (K : Int) (K : Int) (IsT.isN (hL.get (P := pT (.slice A m c) 128 D) (by repeat (first | exact List.mem_cons_self | apply List.mem_cons_of_mem)))) (IsT.isN (hL.get (P := pT (.slice A2 m2 c2) 128 D) (by repeat (first | exact List.mem_cons_self | apply List.mem_cons_of_mem)))) (by decide) (by decide)
          rw [decide_eq_true ⟨rfl, rfl, rfl⟩] at hsm
          replace hsm := Lib.hid hsm
          go_wp2_with fail
          refine hsm.out.mono ?_
          rintro e w7 ⟨rfl, hb⟩
          replace hL := hL.go hb
          clear hb hsm q0 q1 q2 r0 r1 r2
          go_wp2
          go_ret
          exact ⟨rfl, hL.below⟩
        · rw [if_pos rfl] at hun hR
          have hWl : (45 :: S).length ≤ 300000 := by have := hz.out; rw [List.length_cons]; omega
          go_wp2_with fail
          refine (of_t _ N hN).mono ?_
          rintro e w2 ⟨v, rfl, hv, hb⟩
          replace hL := (hL.go hb).put (pT_st _ _ _) hv
          clear hb hv
          have htx := stext_t (hW.below hL.below).tab (IsT.isN (hL.get (P := pT v 1 N) (by repeat (first | exact List.mem_cons_self | apply List.mem_cons_of_mem)))) (by decide)
          rw [show (⟨(Lib.decDigits N).toArray⟩ : ByteArray) = strL (Lib.decDigits N) from rfl, hS.out] at htx
          replace htx := Lib.hid htx
          go_wp2_with fail
          refine htx.out.mono ?_
          rintro e w3 ⟨rfl, hb⟩
          replace hL := hL.go hb
          clear hb htx
          go_wp2_with fail
          refine (of_t _ D hD).mono ?_
          rintro e w4 ⟨u, rfl, hu, hb⟩
          have hu' := isT_more hu (show 1 ≤ 128 by decide)
          obtain ⟨A, c, zs, rfl, -⟩ := id hu
          obtain ⟨m, hm⟩ : ∃ n, zs.length = n := ⟨_, rfl⟩
          rw [hm] at hu' ⊢
          replace hL := (hL.go hb).put (pT_st _ _ _) hu'
          replace hL := (hL.go ((Below.refl _ _).alloc (Nat.le_refl _) (.cells #[.bool true, .slice A m c, .int .i64 (K : Int)] 25))).put (pBlk_st _ _ _) (pBlk_made w4 _ 25)
          clear hb hu hu' hm
          go_wp2_with fail
          refine (unlay_is _ hWl true D K hun.out _ (hW.below hL.below)).mono ?_
          rintro e w5 ⟨u2, rfl, hu, hb⟩
          obtain ⟨A2, c2, zs2, rfl, -⟩ := id hu
          obtain ⟨m2, hm2⟩ : ∃ n, zs2.length = n := ⟨_, rfl⟩
          rw [hm2] at hu ⊢
          replace hL := (hL.go hb).put (pT_st _ _ _) hu
          replace hL := (hL.go ((Below.refl _ _).alloc (Nat.le_refl _) (.cells #[.bool true, .slice A2 m2 c2, .int .i64 (K : Int)] 25))).put (pBlk_st _ _ _) (pBlk_made w5 _ 25)
          clear hb hu hm2
          have q0 := (hL.get (P := pBlk w4.heap.size #[.bool true, .slice A m c, .int .i64 (K : Int)] 25) (by repeat (first | exact List.mem_cons_self | apply List.mem_cons_of_mem))).cell 0 _ rfl
          have q1 := (hL.get (P := pBlk w4.heap.size #[.bool true, .slice A m c, .int .i64 (K : Int)] 25) (by repeat (first | exact List.mem_cons_self | apply List.mem_cons_of_mem))).cell 1 _ rfl
          have q2 := (hL.get (P := pBlk w4.heap.size #[.bool true, .slice A m c, .int .i64 (K : Int)] 25) (by repeat (first | exact List.mem_cons_self | apply List.mem_cons_of_mem))).cell 2 _ rfl
          have hly := layout_any true (K : Int) (hW.below hL.below).tab (hL.get (P := pT (.slice A m c) 128 D) (by repeat (first | exact List.mem_cons_self | apply List.mem_cons_of_mem)))
          rw [hR.out] at hly
          replace hly := Lib.hid hly
          go_wp2_with fail
          refine hly.out.mono ?_
          rintro e w6 ⟨rfl, hb⟩
          replace hL := hL.go hb
          clear hb hly q0 q1 q2
          have q0 := (hL.get (P := pBlk w4.heap.size #[.bool true, .slice A m c, .int .i64 (K : Int)] 25) (by repeat (first | exact List.mem_cons_self | apply List.mem_cons_of_mem))).cell 0 _ rfl
          have q1 := (hL.get (P := pBlk w4.heap.size #[.bool true, .slice A m c, .int .i64 (K : Int)] 25) (by repeat (first | exact List.mem_cons_self | apply List.mem_cons_of_mem))).cell 1 _ rfl
          have q2 := (hL.get (P := pBlk w4.heap.size #[.bool true, .slice A m c, .int .i64 (K : Int)] 25) (by repeat (first | exact List.mem_cons_self | apply List.mem_cons_of_mem))).cell 2 _ rfl
          have r0 := (hL.get (P := pBlk w5.heap.size #[.bool true, .slice A2 m2 c2, .int .i64 (K : Int)] 25) (by repeat (first | exact List.mem_cons_self | apply List.mem_cons_of_mem))).cell 0 _ rfl
          have r1 := (hL.get (P := pBlk w5.heap.size #[.bool true, .slice A2 m2 c2, .int .i64 (K : Int)] 25) (by repeat (first | exact List.mem_cons_self | apply List.mem_cons_of_mem))).cell 1 _ rfl
          have r2 := (hL.get (P := pBlk w5.heap.size #[.bool true, .slice A2 m2 c2, .int .i64 (K : Int)] 25) (by repeat (first | exact List.mem_cons_self | apply List.mem_cons_of_mem))).cell 2 _ rfl
          have hsm := lsame_t true true (K : Int) (K : Int) (IsT.isN (hL.get (P := pT (.slice A m c) 128 D) (by repeat (first | exact List.mem_cons_self | apply List.mem_cons_of_mem)))) (IsT.isN (hL.get (P := pT (.slice A2 m2 c2) 128 D) (by repeat (first | exact List.mem_cons_self | apply List.mem_cons_of_mem)))) (by decide) (by decide)
          rw [decide_eq_true ⟨rfl, rfl, rfl⟩] at hsm
          replace hsm := Lib.hid hsm
          go_wp2_with fail
          refine hsm.out.mono ?_
          rintro e w7 ⟨rfl, hb⟩
          replace hL := hL.go hb
          clear hb hsm q0 q1 q2 r0 r1 r2
          go_wp2
          go_ret
          exact ⟨rfl, hL.below⟩
    · obtain ⟨g, rfl⟩ : ∃ g, gk = g + 1 := ⟨gk - 1, by omega⟩
      have hxp : 0 < x := by
        rcases Nat.eq_zero_or_pos D with h | h
        · have := hD0 h; omega
        · rw [hx]; exact Nat.mul_pos h (Nat.pow_pos (by decide))
      obtain ⟨y, hy⟩ : ∃ y, D * 10 ^ g = y := ⟨_, rfl⟩
      have hxy : x = y * 10 := by rw [hx, Nat.pow_succ, ← Nat.mul_assoc, hy]
      have hx1 : (0 : Int) < x := by omega
      have hx2 : ((x : Int) % 10 == 0) = true := by rw [beq_iff_eq]; omega
      have hx3 : (x : Int) / 10 = (y : Int) := by omega
      have hxb : x < 18446744073709551616 := by
        have h1 : x * 1 ≤ D * 10 ^ K := by
          rw [hx, Nat.mul_one]
          exact Nat.mul_le_mul_left _ (Nat.pow_le_pow_right (by decide) (by omega))
        omega
      clear hx hxy hDK hD0 hD1 hL
      go_wp2
      go_roundg g
      case measure => omega
      case rel => exact ⟨i + 1, y, by omega, hy.symm, by first | rfl | simp [hx3], by go_num, rfl⟩
end Go.Proofs.YtjhdkdfiadlmcaaGreatDoor
namespace Go.Proofs.YtjhdkdfiadlmcaaGreatDoor
open Go.ChangeShapes Go.WideShapes Go.ChangeAt Go.RowKit Go.Cal
set_option maxRecDepth 100000 in
theorem layoutWholes_lifted (os : Os) (started : os.Started) (H : Type) (enc : TypeId × Value → H) :
    ReturnsInHanded {} Tryz.checked os 7 .any (fun w args => (Rows.layoutWholesSpec.pre enc Tryz.prog Tryz.f7 [] false w args ∧ laidMetH Tryz.prog Rows.layoutWholesRow.laid w) ∧ sizedMet enc Tryz.prog Tryz.f7 (OpenSpec.ofChange Rows.layoutWholesSpec) false w args)
      (Rows.layoutWholesSpec.post enc Tryz.prog Tryz.f7 false true false false) := by
  refine returnsInHanded_of_change_and_sh (C := Tryz.checked) (X := fun w _ => laidMetH Tryz.prog Rows.layoutWholesRow.laid w) (fun _ _ _ hh h => h.of_heap hh) own started (by kernel_rfl) Tryz.func7
    (ChangeSpec.witness_shaped (enc := enc) (C := Tryz.checked) (os := os) (X := fun w _ => laidMetH Tryz.prog Rows.layoutWholesRow.laid w) false (World.laidAll Tryz.prog os Rows.layoutWholesRow.laid) #[.int .u64 0, .bool false] 8 (World.laidAll_os _ _ _)
      (World.shaped_of_ZipB (by kernel_rfl) (by kernel_rfl)) (by kernel_rfl) (by kernel_rfl) (by kernel_rfl)
      (by rw [MakeChecks.laidMetH_plain _ _ _ (by kernel_rfl)]; exact laidMet_laidAll _ (by kernel_rfl) (by kernel_rfl))) ?_
  intro W base args ds gs before hval0 hW hL hsh
  have hval : ∀ (j : Nat) t v, Tryz.f7.params[j]? = some t → args[j]? = some v → Value.okWide Tryz.prog W .any base t v := hval0
  have hW' := hW
  obtain ⟨p, q, hA0, hV, rfl, hfz, hnd⟩ := hW
  have hA : DataW.TrodAll enc Tryz.prog W 0 (fun _ => true) true Tryz.f7.params.toList args.toList ds p := hA0
  rw [Tryz.params7] at hA hval
  obtain ⟨v0, v1, d0, d1, p0, p1, rfl, rfl, rfl, h0, h1⟩ := trodAll_two hA
  obtain ⟨rfl, rfl⟩ := trodVars_none hV
  have hlt := fun x hx => hW'.lt x hx
  simp only [List.append_nil, List.mem_append] at hlt
  obtain ⟨a0, rfl, rfl, rfl, wa0⟩ := open_int Tryz.underlying36 (hval 0 36 v0 rfl rfl) h0
  obtain ⟨a1, rfl, rfl, rfl⟩ := open_bool Tryz.underlying4 (hval 1 4 v1 rfl rfl) h1
  have hT : LyW W := lyW_of_laid (laid := Rows.layoutWholesRow.laid) (by rw [MakeChecks.laidMetH_plain _ _ _ (by kernel_rfl)] at hL; exact hL) hsh (by dsimp only [Rows.layoutWholesRow]; repeat (first | exact List.mem_cons_self | apply List.mem_cons_of_mem)) (by dsimp only [Rows.layoutWholesRow]; repeat (first | exact List.mem_cons_self | apply List.mem_cons_of_mem)) (by dsimp only [Rows.layoutWholesRow]; repeat (first | exact List.mem_cons_self | apply List.mem_cons_of_mem))
  clear hA0 hval0
  simp only [List.append_nil] at hW'
  refine (layoutWholes_any a0 a1 W hT (bounds_u64 wa0)).mono fun e W' ⟨he, hw⟩ => ?_
  subst he
  exact ⟨_, rfl, _, _, _, [], _, [], hW', trodAll_mk1 (shut_bool Tryz.underlying4 _), trodAll_mk2 (shut_int Tryz.underlying36 wa0) (shut_bool Tryz.underlying4 _), rfl, hw.frame _, fun h => by cases h⟩
theorem layoutWholes_said : Rows.LayoutWholesSaid :=
  OpenClaim.holds_of_wide 7 Tryz.f7 rfl rfl rfl rfl rfl rfl rfl ⟨rfl, rfl, rfl, rfl, rfl⟩ rfl rfl rfl rfl rfl (by kernel_rfl) Tryz.func7 (by kernel_rfl)
    (of_decide_eq_true (by kernel_rfl)) (by unfold Func.isWrapper; first | (rw [if_pos (by decide +kernel)]; kernel_rfl) | (rw [if_neg (by decide +kernel)]; exact ⟨rfl, rfl⟩))
    (fun os started H enc _ => layoutWholes_lifted os started H enc)
theorem layoutWholes_plain (f : FuncId) (fn : Func) (hf : Tryz.pinned.checked.prog.funcNamed "caliper/caliperlaw12.LayoutWholes" = some f) (hfn : Tryz.pinned.checked.prog.funcs[f]? = some fn) :
    true = Tryz.pinned.checked.prog.looks [] ∧ ∀ (j : Nat) t, fn.params[j]? = some t → Tryz.pinned.checked.prog.wantsStandIn t = false := by
  obtain rfl : f = 7 := Option.some.inj ((show Tryz.prog.funcNamed "caliper/caliperlaw12.LayoutWholes" = some 7 by kernel_rfl).symm.trans hf) |>.symm
  obtain rfl : fn = Tryz.f7 := (Option.some.inj (Tryz.func7.symm.trans hfn)).symm
  refine ⟨by kernel_rfl, fun j t ht => ?_⟩
  rw [Tryz.params7] at ht
  have hm : t ∈ [36, 4] := by simpa using Array.mem_of_getElem? ht
  have hall : ([36, 4].all fun u => !Tryz.prog.wantsStandIn u) = true := by kernel_rfl
  exact (show Tryz.prog.wantsStandIn t = false by simpa using List.all_eq_true.1 hall t hm)
theorem layoutWholes_card : Rows.LayoutWholesCardSaid :=
  Claim7.holds_tied_plain_at .later [] _ _ _ _ layoutWholes_said (fun _ h => by cases h) (by kernel_rfl) (fun _ h => by cases h) layoutWholes_row_tie rfl ⟨rfl, rfl⟩ (by kernel_rfl) rfl layoutWholes_plain (by kernel_rfl)
end Go.Proofs.YtjhdkdfiadlmcaaGreatDoor
