/- The law ScanTells, walked. Condition: the table of powers reads as it is laid. -/
/- What is proved: the statement ScanTells: whatever the input, the call tells true and the arguments read as they did. Condition: the package-level tables read as the program's text lays them, which the card ties. -/
import Derived.Test.YtabgfdingdmnlaaGreatDoorTells32
import Derived.Test.YtabgfdingdmnlaaGreatDoorTells31
import Derived.Test.YtabgfdingdmnlaaGreatDoorTells10
import Derived.Test.YtabgfdingdmnlaaGreatDoorTells21
namespace Go.Proofs.YtabgfdingdmnlaaGreatDoor
open Go.RowKit Go.Cal
set_option maxRecDepth 100000 in
set_option maxHeartbeats 4000000 in
theorem scanTells_any (v : Value) (w : World) (hT : Tab10 w) (h0 : ArgB w v) :
    Calls Tryz.prog 3 #[v] w fun e w' => e = .returned (.bool true) ∧ Below w.heap.size w w' := by
  obtain ⟨A, c, k, l, rfl, hr, hmi, hmc, hcm, hl⟩ := h0.cut 3000
  obtain ⟨n, hn⟩ : ∃ n, l.length = n := ⟨_, rfl⟩
  have hsl := fun w => slice_head A k c (l.length : Int) w (by omega) hmc
  simp only [hn, Int.toNat_natCast] at hsl
  have hcap := textV_cap l hl
  rw [hn] at hmi hmc hl
  replace hmi : min (k : Int) 3000 = (n : Int) := hmi
  have hL := (LiveP.start w).put (pR_st A l) hr
  go_enter Tryz.func3, Tryz.ntmps3
  go_wp2_with fail
  refine (shown_any w hT).mono ?_
  rintro e w1 ⟨rfl, hb⟩
  replace hL := hL.go hb
  clear hb
  go_wp2_with (at_builtin; refine wpList_app rfl _ _ rfl w1.heap.size [] l rfl rfl rfl hn.symm ?own ?rd ?hbase ?hsz ?_)
  case own => exact .none (Nat.le_refl _) (by simp)
  case rd => exact rd_go (hL.get (P := pR A l) (by repeat (first | exact List.mem_cons_self | apply List.mem_cons_of_mem))) ((Below.refl _ _).alloc (Nat.le_refl _) _)
  case hbase => simp
  case hsz => simp; omega
  intro g3 c3 w3 how hb
  try rw [List.nil_append] at how
  try simp only [List.nil_append, hn]
  replace hb := ((Below.refl w1.heap.size w1).alloc (Nat.le_refl _) _).trans hb
  replace hL := (hL.go hb).put (pR_st (some ⟨g3, 0, none⟩) l) how.rd
  clear hb
  have hcv := fun w' (h : pR (some ⟨g3, 0, none⟩) l w') => conv_bytes c3 h
  simp only [hn] at hcv
  have hcv3 := hcv _ how.rd
  have hrd3 := how.rd
  clear how
  by_cases hok : (textS l).1 = true
  · obtain ⟨it, hit⟩ : ∃ x, textV 1125899906842624 l = x := ⟨_, rfl⟩
    rw [hit] at hcap
    have hy := fun w hr => scan_yes (A := some ⟨g3, 0, none⟩) (c := c3) l it n hok hit hn (by omega) w hr
    have hz := fun w => rscan_yes l it hok hcap (by omega) w
    replace hit := Lib.hid hit
    replace hcap := Lib.hid hcap
    replace hok := Lib.hid hok
    replace hn := Lib.hid hn
    go_wp2_with fail
    refine (hy _ hrd3).mono ?_
    rintro e w4 ⟨A4, n4, c4, rfl, hd, hb⟩
    replace hL := (hL.go hb).put (pItemN_st _ _ _) hd
    replace hL := (hL.go ((Below.refl _ _).alloc (Nat.le_refl _) (.cells #[.int .i64 (it.kind : Nat), .bool it.neg, .slice A4 n4 c4, .int .i64 it.k, .int .i64 it.big, .bool it.cut] 27))).put (pBlk_st _ _ _) (pBlk_made w4 _ 27)
    clear hb hd hy hrd3 hcv3
    go_wp2_with fail
    refine (hz _).mono ?_
    rintro e w6 ⟨A6, n6, c6, rfl, hd, hb⟩
    replace hL := (hL.go hb).put (pItemN_st _ _ _) hd
    have hB := hL.get (P := pBlk w4.heap.size #[.int .i64 (it.kind : Nat), .bool it.neg, .slice A4 n4 c4, .int .i64 it.k, .int .i64 it.big, .bool it.cut] 27) (by repeat (first | exact List.mem_cons_self | apply List.mem_cons_of_mem))
    have hzz : w4.heap.size < w6.heap.size := hB.lt
    have g0 := hB.cell 0 _ rfl
    have g1 := hB.cell 1 _ rfl
    have g2 := hB.cell 2 _ rfl
    have g3' := hB.cell 3 _ rfl
    have g4 := hB.cell 4 _ rfl
    have g5 := hB.cell 5 _ rfl
    replace hL := hL.go ((Below.refl _ _).alloc (Nat.le_refl _) (.cells #[.int .i64 (it.kind : Nat), .bool it.neg, .slice A6 n6 c6, .int .i64 it.k, .int .i64 it.big, .bool it.cut] 31))
    clear hb hB hd hz
    go_wp2_with fail
    refine (same_any (it := it) _ (hL.get (P := pItemN _ (.agg #[.int .i64 (it.kind : Nat), .bool it.neg, .slice A4 n4 c4, .int .i64 it.k, .int .i64 it.big, .bool it.cut]) it) (by repeat (first | exact List.mem_cons_self | apply List.mem_cons_of_mem))).item (hL.get (P := pItemN _ (.agg #[.int .i64 (it.kind : Nat), .bool it.neg, .slice A6 n6 c6, .int .i64 it.k, .int .i64 it.big, .bool it.cut]) it) (by repeat (first | exact List.mem_cons_self | apply List.mem_cons_of_mem))).item).mono ?_
    rintro e w7 ⟨rfl, hb⟩
    replace hL := hL.go hb
    have hcv7 := hcv _ (hL.get (P := pR (some ⟨g3, 0, none⟩) l) (by repeat (first | exact List.mem_cons_self | apply List.mem_cons_of_mem)))
    clear hb
    go_wp2
    go_ret
    exact ⟨rfl, hL.below⟩
  · have hok' : (textS l).1 = false := by simpa using hok
    obtain ⟨p, hp⟩ : ∃ p, (textS l).2 = p := ⟨_, rfl⟩
    have hy := fun w hr => scan_no (A := some ⟨g3, 0, none⟩) (c := c3) l p n hok' hp hn (by omega) w hr
    have hz := fun w => rscan_no l p hok' hp (by omega) w
    replace hp := Lib.hid hp
    replace hok' := Lib.hid hok'
    replace hn := Lib.hid hn
    clear hok hcap
    go_wp2_with fail
    refine (hy _ hrd3).mono ?_
    rintro e w4 ⟨rfl, hb⟩
    replace hL := hL.go hb
    replace hL := (hL.go ((Below.refl _ _).alloc (Nat.le_refl _) (.cells #[.int .i64 0, .bool false, .slice none 0 0, .int .i64 0, .int .i64 0, .bool false] 27))).put (pBlk_st _ _ _) (pBlk_made w4 _ 27)
    clear hb hy hrd3 hcv3
    go_wp2_with fail
    refine (hz _).mono ?_
    rintro e w6 ⟨rfl, hb⟩
    replace hL := hL.go hb
    have hB := hL.get (P := pBlk w4.heap.size #[.int .i64 0, .bool false, .slice none 0 0, .int .i64 0, .int .i64 0, .bool false] 27) (by repeat (first | exact List.mem_cons_self | apply List.mem_cons_of_mem))
    have hzz : w4.heap.size < w6.heap.size := hB.lt
    have g0 := hB.cell 0 _ rfl
    have g1 := hB.cell 1 _ rfl
    have g2 := hB.cell 2 _ rfl
    have g3' := hB.cell 3 _ rfl
    have g4 := hB.cell 4 _ rfl
    have g5 := hB.cell 5 _ rfl
    replace hL := hL.go ((Below.refl _ _).alloc (Nat.le_refl _) (.cells #[.int .i64 0, .bool false, .slice none 0 0, .int .i64 0, .int .i64 0, .bool false] 31))
    clear hb hB hz
    go_wp2_with fail
    refine (same_any (it := noItem) _ ⟨_, rfl, .none0 _⟩ ⟨_, rfl, .none0 _⟩).mono ?_
    rintro e w7 ⟨rfl, hb⟩
    replace hL := hL.go hb
    have hcv7 := hcv _ (hL.get (P := pR (some ⟨g3, 0, none⟩) l) (by repeat (first | exact List.mem_cons_self | apply List.mem_cons_of_mem)))
    clear hb
    go_wp2
    go_ret
    exact ⟨rfl, hL.below⟩
end Go.Proofs.YtabgfdingdmnlaaGreatDoor
namespace Go.Proofs.YtabgfdingdmnlaaGreatDoor
open Go.ChangeShapes Go.WideShapes Go.ChangeAt Go.RowKit Go.Cal
set_option maxRecDepth 100000 in
theorem scanTells_lifted (os : Os) (started : os.Started) (H : Type) (enc : TypeId × Value → H) :
    ReturnsInHanded {} Tryz.checked os 3 .any (fun w args => (Rows.scanTellsSpec.pre enc Tryz.prog Tryz.f3 [] false w args ∧ laidMetH Tryz.prog Rows.scanTellsRow.laid w) ∧ sizedMet enc Tryz.prog Tryz.f3 (OpenSpec.ofChange Rows.scanTellsSpec) false w args)
      (Rows.scanTellsSpec.post enc Tryz.prog Tryz.f3 false true false false) := by
  refine returnsInHanded_of_change_and (C := Tryz.checked) (X := fun w _ => laidMetH Tryz.prog Rows.scanTellsRow.laid w) (fun _ _ _ hh h => h.of_heap hh) own started (by kernel_rfl) Tryz.func3
    (ChangeSpec.witness_shaped (enc := enc) (C := Tryz.checked) (os := os) (X := fun w _ => laidMetH Tryz.prog Rows.scanTellsRow.laid w) false (World.laidAll Tryz.prog os Rows.scanTellsRow.laid) #[.slice none 0 0] 8 (World.laidAll_os _ _ _)
      (World.shaped_of_ZipB (by kernel_rfl) (by kernel_rfl)) (by kernel_rfl) (by kernel_rfl) (by kernel_rfl)
      (by rw [MakeChecks.laidMetH_plain _ _ _ (by kernel_rfl)]; exact laidMet_laidAll _ (by kernel_rfl) (by kernel_rfl))) ?_
  intro W base args ds gs before hval0 hW _ _ hL _
  have hval : ∀ (j : Nat) t v, Tryz.f3.params[j]? = some t → args[j]? = some v → Value.okWide Tryz.prog W .any base t v := hval0
  have hW' := hW
  obtain ⟨p, q, hA0, hV, rfl, hfz, hnd⟩ := hW
  have hA : DataW.TrodAll enc Tryz.prog W 0 (fun _ => true) true Tryz.f3.params.toList args.toList ds p := hA0
  rw [Tryz.params3] at hA hval
  obtain ⟨v0, d0, rfl, rfl, h0⟩ := trodAll_one hA
  obtain ⟨rfl, rfl⟩ := trodVars_none hV
  have hlt := fun x hx => hW'.lt x hx
  simp only [List.append_nil] at hlt
  have hl0 : ∀ x ∈ p, x.block < W.heap.size := fun x hx => hlt x (by first | exact hx | simp [hx])
  have ha0 := argB_of (hval 0 22 v0 rfl rfl) h0 hl0
  have hT : Tab10 W := tab10_of_laid (laid := Rows.scanTellsRow.laid) (by rw [MakeChecks.laidMetH_plain _ _ _ (by kernel_rfl)] at hL; exact hL) (by dsimp only [Rows.scanTellsRow]; repeat (first | exact List.mem_cons_self | apply List.mem_cons_of_mem))
  clear hA0 hval0
  simp only [List.append_nil] at hW'
  refine (scanTells_any v0 W hT ha0).mono fun e W' ⟨he, hw⟩ => ?_
  subst he
  exact ⟨_, rfl, _, _, _, [], _, [], hW', trodAll_mk1 (shut_bool Tryz.underlying4 _), trodAll_mk1 (Below.trod laid_out (by kernel_rfl) (of_decide_eq_true (by kernel_rfl)) h0 hw hl0), rfl, hw.frame _, fun h => by cases h⟩
theorem scanTells_said : Rows.ScanTellsSaid :=
  OpenClaim.holds_of_wide 3 Tryz.f3 rfl rfl rfl rfl rfl rfl rfl ⟨rfl, rfl, rfl, rfl, rfl⟩ rfl rfl rfl rfl rfl (by kernel_rfl) Tryz.func3 (by kernel_rfl)
    (of_decide_eq_true (by kernel_rfl)) (by unfold Func.isWrapper; first | (rw [if_pos (by decide +kernel)]; kernel_rfl) | (rw [if_neg (by decide +kernel)]; exact ⟨rfl, rfl⟩))
    (fun os started H enc _ => scanTells_lifted os started H enc)
theorem scanTells_plain (f : FuncId) (fn : Func) (hf : Tryz.pinned.checked.prog.funcNamed "caliper/caliperlaw09.ScanTells" = some f) (hfn : Tryz.pinned.checked.prog.funcs[f]? = some fn) :
    true = Tryz.pinned.checked.prog.looks [] ∧ ∀ (j : Nat) t, fn.params[j]? = some t → Tryz.pinned.checked.prog.wantsStandIn t = false := by
  obtain rfl : f = 3 := Option.some.inj ((show Tryz.prog.funcNamed "caliper/caliperlaw09.ScanTells" = some 3 by kernel_rfl).symm.trans hf) |>.symm
  obtain rfl : fn = Tryz.f3 := (Option.some.inj (Tryz.func3.symm.trans hfn)).symm
  refine ⟨by kernel_rfl, fun j t ht => ?_⟩
  rw [Tryz.params3] at ht
  have hm : t ∈ [22] := by simpa using Array.mem_of_getElem? ht
  have hall : ([22].all fun u => !Tryz.prog.wantsStandIn u) = true := by kernel_rfl
  exact (show Tryz.prog.wantsStandIn t = false by simpa using List.all_eq_true.1 hall t hm)
theorem scanTells_card : Rows.ScanTellsCardSaid :=
  Claim7.holds_tied_plain_at .later [] _ _ _ _ scanTells_said (fun _ h => by cases h) (by kernel_rfl) (fun _ h => by cases h) scanTells_row_tie rfl ⟨rfl, rfl⟩ (by kernel_rfl) rfl scanTells_plain (by kernel_rfl)
end Go.Proofs.YtabgfdingdmnlaaGreatDoor
