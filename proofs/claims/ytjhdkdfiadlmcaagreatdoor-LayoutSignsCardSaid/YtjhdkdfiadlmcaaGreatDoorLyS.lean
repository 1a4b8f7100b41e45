/- What is proved: the statement LayoutSigns: whatever the input, the call tells true and the arguments read as they did. Condition: the package-level tables read as the program's text lays them, which the card ties. -/
/- The law LayoutSigns, walked. Conditions: the variables that the library reads. -/
import Derived.Test.YtjhdkdfiadlmcaaGreatDoorLyCom
import Derived.Deep.LoopGhost
namespace Go.Proofs.YtjhdkdfiadlmcaaGreatDoor
open Go.RowKit Go.Cal
theorem sign_arms {n N y : Nat} {k pp : Int} {pt ex : Bool} (hn : 0 < n ↔ 0 < N) (he : ex = true ↔ 0 < N ∧ (21 < pp ∨ pp < -5)) (hp : pt = true ↔ 0 < N ∧ ((ex = true ∧ 1 < y) ∨ (ex = false ∧ k < 0))) :
    (n = 0 ∧ ex = false ∧ pt = false) ∨ (0 < n ∧ 21 < pp ∧ ex = true ∧ 1 < y ∧ pt = true) ∨ (0 < n ∧ 21 < pp ∧ ex = true ∧ ¬ 1 < y ∧ pt = false) ∨ (0 < n ∧ ¬ 21 < pp ∧ pp < -5 ∧ ex = true ∧ 1 < y ∧ pt = true) ∨ (0 < n ∧ ¬ 21 < pp ∧ pp < -5 ∧ ex = true ∧ ¬ 1 < y ∧ pt = false) ∨
    (0 < n ∧ ¬ 21 < pp ∧ ¬ pp < -5 ∧ ex = false ∧ k < 0 ∧ pt = true) ∨ (0 < n ∧ ¬ 21 < pp ∧ ¬ pp < -5 ∧ ex = false ∧ ¬ k < 0 ∧ pt = false) := by
  have hx : ∀ b : Bool, b = false ↔ ¬ b = true := fun b => by cases b <;> simp
  rw [hx ex, hx pt]
  rw [hx ex] at hp
  by_cases h0 : 0 < n
  · have h1 := hn.1 h0
    by_cases a1 : 21 < pp
    · have : ex = true := he.2 ⟨h1, .inl a1⟩
      by_cases a2 : 1 < y
      · exact .inr (.inl ⟨h0, a1, this, a2, hp.2 ⟨h1, .inl ⟨this, a2⟩⟩⟩)
      · exact .inr (.inr (.inl ⟨h0, a1, this, a2, fun h => by rcases (hp.1 h).2 with h | h; exact a2 h.2; exact h.1 this⟩))
    · by_cases a3 : pp < -5
      · have : ex = true := he.2 ⟨h1, .inr a3⟩
        by_cases a2 : 1 < y
        · exact .inr (.inr (.inr (.inl ⟨h0, a1, a3, this, a2, hp.2 ⟨h1, .inl ⟨this, a2⟩⟩⟩)))
        · exact .inr (.inr (.inr (.inr (.inl ⟨h0, a1, a3, this, a2, fun h => by rcases (hp.1 h).2 with h | h; exact a2 h.2; exact h.1 this⟩))))
      · have : ¬ ex = true := fun h => by rcases (he.1 h).2 with h | h; exact a1 h; exact a3 h
        by_cases a2 : k < 0
        · exact .inr (.inr (.inr (.inr (.inr (.inl ⟨h0, a1, a3, this, a2, hp.2 ⟨h1, .inr ⟨this, a2⟩⟩⟩)))))
        · exact .inr (.inr (.inr (.inr (.inr (.inr ⟨h0, a1, a3, this, a2, fun h => by rcases (hp.1 h).2 with h | h; exact this h.1; exact a2 h.2⟩)))))
  · exact .inl ⟨by omega, fun h => h0 (hn.2 (he.1 h).1), fun h => h0 (hn.2 (hp.1 h).1)⟩
theorem isT_pos {w : World} {A : Option Addr} {n c m N : Nat} (h : IsT w (.slice A n c) m N) : 0 < n ↔ 0 < N := by
  obtain ⟨A', c', zs, e, _, _, _, _, nr⟩ := h
  injection e with e1 e2 e3
  subst e2
  constructor
  · intro h
    have h1 := vl_pos (b := 18446744073709551616) nr.top (List.length_pos_iff.1 h)
    rw [nr.val] at h1
    exact Nat.lt_of_lt_of_le (Nat.pow_pos (by decide)) h1
  · intro h
    refine List.length_pos_iff.2 fun e => ?_
    subst e
    have := nr.val
    simp [vl] at this
    omega
theorem count_step (S : List UInt8) (x : UInt8) (i : Nat) (h : i < S.length) : (S.take (i + 1)).count x = (S.take i).count x + if S.getD i 0 = x then 1 else 0 := by
  rw [List.take_add_one, List.getElem?_eq_getElem h, List.count_append, List.getD_eq_getElem?_getD, List.getElem?_eq_getElem h]
  simp [List.count_cons]
set_option maxRecDepth 100000 in
set_option maxHeartbeats 4000000 in
theorem layoutSigns_any (v : Value) (neg : Bool) (k : Int) (w : World) (hW : LyW w) (ha : ArgN w v) (_ : -9223372036854775808 ≤ k ∧ k ≤ 9223372036854775807) :
    Calls Tryz.prog 4 #[.agg #[.bool neg, v, .int .i64 k]] w fun e w' => e = .returned (.bool true) ∧ Below w.heap.size w w' := by
  obtain ⟨A, n, c, rfl, hcase⟩ := dig_cases neg k hW.tab ha
  clear ha
  have hb0 := (Below.refl w.heap.size w).alloc (Nat.le_refl _) (.cells #[.bool neg, .slice A n c, .int .i64 k] 25)
  have hL := ((LiveP.start w).go hb0).put (pBlk_st _ _ _) (pBlk_made w #[.bool neg, .slice A n c, .int .i64 k] 25)
  rcases hcase with ⟨N, hN, hr⟩ | hno
  · replace hL := hL.put (pT_st _ 128 N) (hN.below hb0)
    have hrt := fun (W : World) (hT : Tab10 W) (h : pT (.slice A n c) 128 N W) => right_t neg k hT h
    rw [decide_eq_true hr] at hrt
    replace hrt := Lib.hid hrt
    obtain ⟨pt, ex, hc1, hc2, he, hp⟩ := lyS_counts hr
    obtain ⟨y, hy⟩ : ∃ y, (Lib.decDigits N).length = y := ⟨_, rfl⟩
    obtain ⟨S, hS⟩ : ∃ S, lyS N k = S := ⟨_, rfl⟩
    obtain ⟨z, hzl⟩ : ∃ z, S.length = z := ⟨_, rfl⟩
    have hR1 : lyR false N k = S := by unfold lyR lyT; rw [if_pos hr, hS]; rfl
    have hR2 : lyR true N k = 45 :: S := by unfold lyR lyT; rw [if_pos hr, hS]; rfl
    have hzz : z ≤ 12100 := by
      have := lyT_len false hr
      unfold lyT at this
      rw [hS] at this
      simpa [hzl] using this
    have hk5 : -5000 ≤ k ∧ k ≤ 5000 := by
      rcases hr.cases with ⟨_, h⟩ | h
      · omega
      · exact ⟨h.lo, h.hi⟩
    have hy2 : y ≤ 2000 := by
      rcases hr.cases with ⟨h, _⟩ | h
      · subst h; rw [← hy]; decide +kernel
      · rw [← hy]; exact h.len
    obtain ⟨hk5, hk6⟩ := hk5
    rw [hy] at he hp
    have harm := sign_arms (isT_pos hN) he hp
    have hcat : (⟨#[45]⟩ : ByteArray) ++ strL S = strL (45 :: S) := strL_app [45] S
    have hsz : (strL S).size = z := by rw [strL_size, hzl]
    rw [hS] at hc1 hc2
    clear he hp hS
    replace hr := Lib.hid hr
    replace hy := Lib.hid hy
    replace hc1 := Lib.hid hc1
    replace hc2 := Lib.hid hc2
    replace hzl := Lib.hid hzl
    replace hR1 := Lib.hid hR1
    replace hR2 := Lib.hid hR2
    replace harm := Lib.hid harm
    clear hb0 hN
    go_enter Tryz.func4, Tryz.ntmps4
    go_wp2_with fail
    refine (lshown_any _ (hW.below hL.below)).mono ?_
    rintro e v1 ⟨rfl, hb⟩
    replace hL := hL.go hb
    clear hb
    have q0 := (hL.get (P := pBlk w.heap.size #[.bool neg, .slice A n c, .int .i64 k] 25) (by repeat (first | exact List.mem_cons_self | apply List.mem_cons_of_mem))).cell 0 _ rfl
    have q1 := (hL.get (P := pBlk w.heap.size #[.bool neg, .slice A n c, .int .i64 k] 25) (by repeat (first | exact List.mem_cons_self | apply List.mem_cons_of_mem))).cell 1 _ rfl
    have q2 := (hL.get (P := pBlk w.heap.size #[.bool neg, .slice A n c, .int .i64 k] 25) (by repeat (first | exact List.mem_cons_self | apply List.mem_cons_of_mem))).cell 2 _ rfl
    go_wp2_with fail
    refine (hrt.out _ (hW.below hL.below).tab (hL.get (P := pT (.slice A n c) 128 N) (by repeat (first | exact List.mem_cons_self | apply List.mem_cons_of_mem)))).mono ?_
    rintro e v2 ⟨rfl, hb⟩
    replace hL := hL.go hb
    clear hb q0 q1 q2 hrt
    have q0 := (hL.get (P := pBlk w.heap.size #[.bool neg, .slice A n c, .int .i64 k] 25) (by repeat (first | exact List.mem_cons_self | apply List.mem_cons_of_mem))).cell 0 _ rfl
    have q1 := (hL.get (P := pBlk w.heap.size #[.bool neg, .slice A n c, .int .i64 k] 25) (by repeat (first | exact List.mem_cons_self | apply List.mem_cons_of_mem))).cell 1 _ rfl
    have q2 := (hL.get (P := pBlk w.heap.size #[.bool neg, .slice A n c, .int .i64 k] 25) (by repeat (first | exact List.mem_cons_self | apply List.mem_cons_of_mem))).cell 2 _ rfl
    have hlt := cell_lt q0
    go_wp2_with fail
    replace hL := ((hL.go ((Below.refl _ _).alloc (Nat.le_refl _) (.cells #[.bool false, .slice A n c, .int .i64 k] 25))).go ((Below.refl _ _).alloc (Nat.le_refl _) (.cells #[.bool true, .slice A n c, .int .i64 k] 25))).put (pBlk_st _ _ _) (pBlk_madeL (v2.alloc (.cells #[.bool false, .slice A n c, .int .i64 k] 25)) #[.bool true, .slice A n c, .int .i64 k] 25 (v2.heap.size + 1) (by simp))
    have hly := layout_any false k (hW.below hL.below).tab (hL.get (P := pT (.slice A n c) 128 N) (by repeat (first | exact List.mem_cons_self | apply List.mem_cons_of_mem)))
    rw [hR1.out] at hly
    replace hly := Lib.hid hly
    refine hly.out.mono ?_
    rintro e v3 ⟨rfl, hb⟩
    replace hL := hL.go hb
    clear hb hly q0 q1 q2 hlt
    have q0 := (hL.get (P := pBlk (v2.heap.size + 1) #[.bool true, .slice A n c, .int .i64 k] 25) (by repeat (first | exact List.mem_cons_self | apply List.mem_cons_of_mem))).cell 0 _ rfl
    have q1 := (hL.get (P := pBlk (v2.heap.size + 1) #[.bool true, .slice A n c, .int .i64 k] 25) (by repeat (first | exact List.mem_cons_self | apply List.mem_cons_of_mem))).cell 1 _ rfl
    have q2 := (hL.get (P := pBlk (v2.heap.size + 1) #[.bool true, .slice A n c, .int .i64 k] 25) (by repeat (first | exact List.mem_cons_self | apply List.mem_cons_of_mem))).cell 2 _ rfl
    have hly := layout_any true k (hW.below hL.below).tab (hL.get (P := pT (.slice A n c) 128 N) (by repeat (first | exact List.mem_cons_self | apply List.mem_cons_of_mem)))
    rw [hR2.out] at hly
    replace hly := Lib.hid hly
    go_wp2_with fail
    refine hly.out.mono ?_
    rintro e v4 ⟨rfl, hb⟩
    replace hL := hL.go hb
    clear hb hly q0 q1 q2
    go_wp2
    go_loopg [7, 8, 9] z (fun g pv ev iv wr => ∃ i : Nat, i + g = z ∧ pv = .int .i64 ((S.take i).count 46 : Nat) ∧ ev = .int .i64 ((S.take i).count 101 : Nat) ∧ iv = .int .i64 i ∧ v4 = wr)
    case atStart => exact ⟨0, by omega, by simp, by simp, rfl, rfl⟩
    case round =>
      obtain ⟨i, hig, rfl, rfl, rfl, rfl⟩ := hrel
      by_cases hk0 : gk = 0
      · obtain rfl : z = i := by omega
        rw [List.take_of_length_le (by rw [hzl.out]; exact Nat.le_refl _), hc1.out, hc2.out]
        have q0 := (hL.get (P := pBlk w.heap.size #[.bool neg, .slice A n c, .int .i64 k] 25) (by repeat (first | exact List.mem_cons_self | apply List.mem_cons_of_mem))).cell 0 _ rfl
        have q1 := (hL.get (P := pBlk w.heap.size #[.bool neg, .slice A n c, .int .i64 k] 25) (by repeat (first | exact List.mem_cons_self | apply List.mem_cons_of_mem))).cell 1 _ rfl
        have q2 := (hL.get (P := pBlk w.heap.size #[.bool neg, .slice A n c, .int .i64 k] 25) (by repeat (first | exact List.mem_cons_self | apply List.mem_cons_of_mem))).cell 2 _ rfl
        have htx := stext_t (hW.below hL.below).tab (IsT.isN (hL.get (P := pT (.slice A n c) 128 N) (by repeat (first | exact List.mem_cons_self | apply List.mem_cons_of_mem)))) (by decide)
        rw [show (⟨(Lib.decDigits N).toArray⟩ : ByteArray) = strL (Lib.decDigits N) from rfl] at htx
        obtain ⟨U, hU⟩ : ∃ U, strL (Lib.decDigits N) = U := ⟨_, rfl⟩
        have hUs : U.size = y := by rw [← hU, strL_size, hy.out]
        rw [hU] at htx
        replace htx := Lib.hid htx
        replace hU := Lib.hid hU
        go_wp2_with fail
        refine htx.out.mono ?_
        rintro e v5 ⟨rfl, hb⟩
        replace hL := hL.go hb
        clear hb htx q0 q1 q2
        have q0 := (hL.get (P := pBlk w.heap.size #[.bool neg, .slice A n c, .int .i64 k] 25) (by repeat (first | exact List.mem_cons_self | apply List.mem_cons_of_mem))).cell 0 _ rfl
        have q1 := (hL.get (P := pBlk w.heap.size #[.bool neg, .slice A n c, .int .i64 k] 25) (by repeat (first | exact List.mem_cons_self | apply List.mem_cons_of_mem))).cell 1 _ rfl
        have q2 := (hL.get (P := pBlk w.heap.size #[.bool neg, .slice A n c, .int .i64 k] 25) (by repeat (first | exact List.mem_cons_self | apply List.mem_cons_of_mem))).cell 2 _ rfl
        have hy1 : (y : Int) ≤ 2000 := by omega
        rcases harm.out with ⟨h1, rfl, rfl⟩ | ⟨h1, h2, rfl, h3, rfl⟩ | ⟨h1, h2, rfl, h3, rfl⟩ | ⟨h1, h2, h3, rfl, h4, rfl⟩ | ⟨h1, h2, h3, rfl, h4, rfl⟩ | ⟨h1, h2, h3, rfl, h4, rfl⟩ | ⟨h1, h2, h3, rfl, h4, rfl⟩
        all_goals
          go_wp2
          go_ret
          exact ⟨by first | rfl | (simp; omega), hL.below⟩
      · have hiz : i < z := by omega
        have hs1 := count_step S 46 i (by rw [hzl.out]; exact hiz)
        have hs2 := count_step S 101 i (by rw [hzl.out]; exact hiz)
        have hget : ∀ h : i < (strL S).size, (strL S)[i] = S.getD i 0 := fun h => strL_get S i h
        obtain ⟨ch, hch⟩ : ∃ x, S.getD i 0 = x := ⟨_, rfl⟩
        rw [hch] at hs1 hs2 hget
        have hp1 : (S.take i).count 46 ≤ 12100 := Nat.le_trans List.count_le_length (by rw [List.length_take]; omega)
        have hp2 : (S.take i).count 101 ≤ 12100 := Nat.le_trans List.count_le_length (by rw [List.length_take]; omega)
        obtain ⟨a, ha⟩ : ∃ a, (S.take i).count 46 = a := ⟨_, rfl⟩
        obtain ⟨b, hb⟩ : ∃ b, (S.take i).count 101 = b := ⟨_, rfl⟩
        rw [ha] at hs1 hp1 ⊢
        rw [hb] at hs2 hp2 ⊢
        clear ha hb hch hL harm
        have hch3 : (ch = 46) ∨ (ch = 101) ∨ (ch ≠ 46 ∧ ch ≠ 101) := by
          by_cases h1 : ch = 46
          · exact .inl h1
          · by_cases h2 : ch = 101
            · exact .inr (.inl h2)
            · exact .inr (.inr ⟨h1, h2⟩)
        rcases hch3 with rfl | rfl | ⟨hn1, hn2⟩
        · rw [if_pos rfl] at hs1
          rw [if_neg (by decide)] at hs2
          replace hs1 := Lib.hid hs1
          replace hs2 := Lib.hid hs2
          go_wp2
          go_roundg (gk - 1)
          case measure => omega
          case rel => exact ⟨i + 1, by omega, by rw [hs1.out]; simp, by rw [hs2.out]; simp, by simp, rfl⟩
        · rw [if_neg (by decide)] at hs1
          rw [if_pos rfl] at hs2
          replace hs1 := Lib.hid hs1
          replace hs2 := Lib.hid hs2
          go_wp2
          go_roundg (gk - 1)
          case measure => omega
          case rel => exact ⟨i + 1, by omega, by rw [hs1.out]; simp, by rw [hs2.out]; simp, by simp, rfl⟩
        · rw [if_neg hn1] at hs1
          rw [if_neg hn2] at hs2
          have ht1 : (((ch.toNat : Nat) : Int) == 46) = false := by
            rw [beq_eq_false_iff_ne]
            intro e
            exact hn1 (UInt8.toNat_inj.1 (by show ch.toNat = 46; omega))
          have ht2 : (((ch.toNat : Nat) : Int) == 101) = false := by
            rw [beq_eq_false_iff_ne]
            intro e
            exact hn2 (UInt8.toNat_inj.1 (by show ch.toNat = 101; omega))
          replace hs1 := Lib.hid hs1
          replace hs2 := Lib.hid hs2
          go_wp2
          go_roundg (gk - 1)
          case measure => omega
          case rel => exact ⟨i + 1, by omega, by rw [hs1.out]; simp, by rw [hs2.out]; simp, by simp, rfl⟩
  · have hno' := Lib.hid (hno.below hb0)
    clear hno hb0
    go_enter Tryz.func4, Tryz.ntmps4
    go_wp2_with fail
    refine (lshown_any _ (hW.below hL.below)).mono ?_
    rintro e v1 ⟨rfl, hb⟩
    have hno1 := Lib.hid (hno'.out.below hb)
    replace hL := hL.go hb
    clear hb hno'
    have q0 := (hL.get (P := pBlk w.heap.size #[.bool neg, .slice A n c, .int .i64 k] 25) (by repeat (first | exact List.mem_cons_self | apply List.mem_cons_of_mem))).cell 0 _ rfl
    have q1 := (hL.get (P := pBlk w.heap.size #[.bool neg, .slice A n c, .int .i64 k] 25) (by repeat (first | exact List.mem_cons_self | apply List.mem_cons_of_mem))).cell 1 _ rfl
    have q2 := (hL.get (P := pBlk w.heap.size #[.bool neg, .slice A n c, .int .i64 k] 25) (by repeat (first | exact List.mem_cons_self | apply List.mem_cons_of_mem))).cell 2 _ rfl
    go_wp2_with fail
    refine ((hno1.out _ (Below.refl _ _)).1).mono ?_
    rintro e v2 ⟨rfl, hb⟩
    replace hL := hL.go hb
    clear hb hno1 q0 q1 q2
    go_wp2
    go_ret
    exact ⟨rfl, hL.below⟩
end Go.Proofs.YtjhdkdfiadlmcaaGreatDoor
namespace Go.Proofs.YtjhdkdfiadlmcaaGreatDoor
open Go.ChangeShapes Go.WideShapes Go.ChangeAt Go.RowKit Go.Cal
set_option maxRecDepth 100000 in
theorem layoutSigns_lifted (os : Os) (started : os.Started) (H : Type) (enc : TypeId × Value → H) :
    ReturnsInHanded {} Tryz.checked os 4 .any (fun w args => (Rows.layoutSignsSpec.pre enc Tryz.prog Tryz.f4 [] false w args ∧ laidMetH Tryz.prog Rows.layoutSignsRow.laid w) ∧ sizedMet enc Tryz.prog Tryz.f4 (OpenSpec.ofChange Rows.layoutSignsSpec) false w args)
      (Rows.layoutSignsSpec.post enc Tryz.prog Tryz.f4 false true false false) := by
  refine returnsInHanded_of_change_and_sh (C := Tryz.checked) (X := fun w _ => laidMetH Tryz.prog Rows.layoutSignsRow.laid w) (fun _ _ _ hh h => h.of_heap hh) own started (by kernel_rfl) Tryz.func4
    (ChangeSpec.witness_shaped (enc := enc) (C := Tryz.checked) (os := os) (X := fun w _ => laidMetH Tryz.prog Rows.layoutSignsRow.laid w) false (World.laidAll Tryz.prog os Rows.layoutSignsRow.laid) #[.agg #[.bool false, .slice none 0 0, .int .i64 0]] 8 (World.laidAll_os _ _ _)
      (World.shaped_of_ZipB (by kernel_rfl) (by kernel_rfl)) (by kernel_rfl) (by kernel_rfl) (by kernel_rfl)
      (by rw [MakeChecks.laidMetH_plain _ _ _ (by kernel_rfl)]; exact laidMet_laidAll _ (by kernel_rfl) (by kernel_rfl))) ?_
  intro W base args ds gs before hval0 hW hL hsh
  have hval : ∀ (j : Nat) t v, Tryz.f4.params[j]? = some t → args[j]? = some v → Value.okWide Tryz.prog W .any base t v := hval0
  have hW' := hW
  obtain ⟨p, q, hA0, hV, rfl, hfz, hnd⟩ := hW
  have hA : DataW.TrodAll enc Tryz.prog W 0 (fun _ => true) true Tryz.f4.params.toList args.toList ds p := hA0
  rw [Tryz.params4] at hA hval
  obtain ⟨v0, d0, rfl, rfl, h0⟩ := trodAll_one hA
  obtain ⟨rfl, rfl⟩ := trodVars_none hV
  have hlt := fun x hx => hW'.lt x hx
  simp only [List.append_nil] at hlt
  have hl0 : ∀ x ∈ p, x.block < W.heap.size := fun x hx => hlt x (by first | exact hx | simp [hx])
  obtain ⟨n0, u0, k0, rfl, ha0, kb0, kc0⟩ := argD_of (hval 0 25 v0 rfl rfl) h0 hl0
  have hT : LyW W := lyW_of_laid (laid := Rows.layoutSignsRow.laid) (by rw [MakeChecks.laidMetH_plain _ _ _ (by kernel_rfl)] at hL; exact hL) hsh (by dsimp only [Rows.layoutSignsRow]; repeat (first | exact List.mem_cons_self | apply List.mem_cons_of_mem)) (by dsimp only [Rows.layoutSignsRow]; repeat (first | exact List.mem_cons_self | apply List.mem_cons_of_mem)) (by dsimp only [Rows.layoutSignsRow]; repeat (first | exact List.mem_cons_self | apply List.mem_cons_of_mem))
  clear hA0 hval0
  simp only [List.append_nil] at hW'
  refine (layoutSigns_any u0 n0 k0 W hT ha0 ⟨kb0, kc0⟩).mono fun e W' ⟨he, hw⟩ => ?_
  subst he
  exact ⟨_, rfl, _, _, _, [], _, [], hW', trodAll_mk1 (shut_bool Tryz.underlying4 _), trodAll_mk1 (Below.trod laid_out (by kernel_rfl) (of_decide_eq_true (by kernel_rfl)) h0 hw hl0), rfl, hw.frame _, fun h => by cases h⟩
theorem layoutSigns_said : Rows.LayoutSignsSaid :=
  OpenClaim.holds_of_wide 4 Tryz.f4 rfl rfl rfl rfl rfl rfl rfl ⟨rfl, rfl, rfl, rfl, rfl⟩ rfl rfl rfl rfl rfl (by kernel_rfl) Tryz.func4 (by kernel_rfl)
    (of_decide_eq_true (by kernel_rfl)) (by unfold Func.isWrapper; first | (rw [if_pos (by decide +kernel)]; kernel_rfl) | (rw [if_neg (by decide +kernel)]; exact ⟨rfl, rfl⟩))
    (fun os started H enc _ => layoutSigns_lifted os started H enc)
theorem layoutSigns_plain (f : FuncId) (fn : Func) (hf : Tryz.pinned.checked.prog.funcNamed "caliper/caliperlaw12.LayoutSigns" = some f) (hfn : Tryz.pinned.checked.prog.funcs[f]? = some fn) :
    true = Tryz.pinned.checked.prog.looks [] ∧ ∀ (j : Nat) t, fn.params[j]? = some t → Tryz.pinned.checked.prog.wantsStandIn t = false := by
  obtain rfl : f = 4 := Option.some.inj ((show Tryz.prog.funcNamed "caliper/caliperlaw12.LayoutSigns" = some 4 by kernel_rfl).symm.trans hf) |>.symm
  obtain rfl : fn = Tryz.f4 := (Option.some.inj (Tryz.func4.symm.trans hfn)).symm
  refine ⟨by kernel_rfl, fun j t ht => ?_⟩
  rw [Tryz.params4] at ht
  have hm : t ∈ [25] := by simpa using Array.mem_of_getElem? ht
  have hall : ([25].all fun u => !Tryz.prog.wantsStandIn u) = true := by kernel_rfl
  exact (show Tryz.prog.wantsStandIn t = false by simpa using List.all_eq_true.1 hall t hm)
theorem layoutSigns_card : Rows.LayoutSignsCardSaid :=
  Claim7.holds_tied_plain_at .later [] _ _ _ _ layoutSigns_said (fun _ h => by cases h) (by kernel_rfl) (fun _ h => by cases h) layoutSigns_row_tie rfl ⟨rfl, rfl⟩ (by kernel_rfl) rfl layoutSigns_plain (by kernel_rfl)
end Go.Proofs.YtjhdkdfiadlmcaaGreatDoor
