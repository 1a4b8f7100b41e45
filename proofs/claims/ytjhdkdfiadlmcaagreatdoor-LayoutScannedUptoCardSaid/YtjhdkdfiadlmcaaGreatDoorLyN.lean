/- What is proved: the statement LayoutScanned where what it reads is of bulk at most 1048576: the call tells true and the argument reads as it did. Condition: the package-level tables read as the program's text lays them, which the card ties. -/
/- The law LayoutScanned, walked. Conditions: the variables that the library reads; a number of at most 1048576 words. -/
/- How many words digits out of an argument have, by the bulk of what is read. Conditions: none. -/
import Derived.Test.YtjhdkdfiadlmcaaGreatDoorLyCom
import Derived.Deep.DeepHandedRow
namespace Go.Proofs.YtjhdkdfiadlmcaaGreatDoor
open Go.RowKit Go.Cal
theorem rd_bytes1 (w : World) (l : List UInt8) (n : Nat) (fr : Nat × Nat) : RdB (w.alloc (.cells (bytesRow (strL l) n) 5 fr)).drew (w.alloc (.cells (bytesRow (strL l) n) 5 fr)).drew.heap.size (some ⟨w.heap.size, 0, none⟩) l := by
  have h := rd_bytes w l n fr
  have h2 : (w.alloc (.cells (bytesRow (strL l) n) 5 fr)).drew.heap.size = w.heap.size + 1 := by simp
  rw [h2]
  exact h
set_option maxRecDepth 100000 in
set_option maxHeartbeats 4000000 in
theorem layoutScanned_any (v : Value) (neg : Bool) (k : Int) (w : World) (hW : LyW w) (ha : ArgN w v) (_ : -9223372036854775808 ≤ k ∧ k ≤ 9223372036854775807) (hlen : ∀ A n c, v = .slice A n c → n ≤ 1048576) :
    Calls Tryz.prog 8 #[.agg #[.bool neg, v, .int .i64 k]] w fun e w' => e = .returned (.bool true) ∧ Below w.heap.size w w' := by
  have hcv := fun (T : List UInt8) w => run_bytes_of_string (P := Tryz.prog) w 9 43 5 (strL T) sunder_str sunder_bytes sunder_byte
  obtain ⟨A, n, c, rfl, hcase⟩ := dig_cases neg k hW.tab ha
  have hn := hlen _ _ _ rfl
  clear hlen
  have hb0 := (Below.refl w.heap.size w).alloc (Nat.le_refl _) (.cells #[.bool neg, .slice A n c, .int .i64 k] 25)
  obtain ⟨N, hNN⟩ : ∃ N, IsN w (.slice A n c) 1048576 N := by
    obtain ⟨A', c', xs, e, h1, h2, h3, h4, h5⟩ := ha
    injection e with e1 e2 e3
    subst e1; subst e2; subst e3
    exact ⟨_, A, c, xs, rfl, h1, h3, hn, h5, rfl⟩
  obtain ⟨y, hy⟩ : ∃ y, (Lib.decDigits N).length = y := ⟨_, rfl⟩
  have hL := (((LiveP.start w).go hb0).put (pBlk_st _ _ _) (pBlk_made w #[.bool neg, .slice A n c, .int .i64 k] 25)).put (pN_st _ _ _) (hNN.below hb0)
  replace hy := Lib.hid hy
  clear ha
  rcases hcase with ⟨N', hN', hr⟩ | hno
  · obtain rfl : N = N' := by
      obtain ⟨A1, c1, z1, e1, r1, _, _, _, d1⟩ := hN'
      obtain ⟨A2, c2, z2, e2, r2, _, _, d2, v2⟩ := hNN
      injection e1 with e1 e3 e4
      injection e2 with e5 e6 e7
      rw [← d1.val, ← v2]
      subst e1; subst e5
      have hz : z2 = z1 := by
        symm
        refine List.ext_getElem (by omega) fun i h1 h2 => ?_
        rcases r1.place with h0 | ⟨b, off, hA, _⟩
        · subst h0; simp at h1
        · have x1 := r1.cells b off hA i h1
          have x2 := r2.cells b off hA i h2
          rw [x1] at x2
          injection x2 with x2
          injection x2 with _ x2
          rw [List.getD_eq_getElem?_getD, List.getD_eq_getElem?_getD, List.getElem?_eq_getElem h1, List.getElem?_eq_getElem h2] at x2
          simp only [Option.getD_some] at x2
          omega
      rw [hz]
    replace hL := hL.put (pT_st _ 128 N) (hN'.below hb0)
    clear hb0 hN' hNN
    have hrt := fun (W : World) (hT : Tab10 W) (h : pT (.slice A n c) 128 N W) => right_t neg k hT h
    rw [decide_eq_true hr] at hrt
    replace hrt := Lib.hid hrt
    have hk5 : -5000 ≤ k ∧ k ≤ 5000 := by
      rcases hr.cases with ⟨_, h⟩ | h
      · omega
      · exact ⟨h.lo, h.hi⟩
    have hy2 : y ≤ 2000 := by
      rcases hr.cases with ⟨h, _⟩ | h
      · rw [← hy.out]; subst h; decide +kernel
      · rw [← hy.out]; exact h.len
    obtain ⟨hk5, hk6⟩ := hk5
    have hit : ¬ 1900 < y → ¬ 900 < (y : Int) + k → ¬ (y : Int) + k < -900 → (textS (lyT neg N k)).1 = true ∧ textV 1125899906842624 (lyT neg N k) = ⟨1, neg, N, k, 0, false⟩ := fun h1 h2 h3 => lyT_item hr neg 1125899906842624 (by decide) (by rw [hy.out]; omega) (by rw [hy.out]; omega) (by rw [hy.out]; omega)
    have hR : lyR neg N k = lyT neg N k := by unfold lyR; rw [if_pos hr]
    have hTl := lyT_len neg hr
    obtain ⟨T, hT⟩ : ∃ T, lyT neg N k = T := ⟨_, rfl⟩
    rw [hT] at hit hR hTl
    obtain ⟨z, hz⟩ : ∃ z, T.length = z := ⟨_, rfl⟩
    rw [hz] at hTl
    have hsz : (strL T).size = z := by rw [strL_size, hz]
    have hcv := hcv T
    simp only [hsz] at hcv
    replace hit := Lib.hid hit
    replace hR := Lib.hid hR
    replace hT := Lib.hid hT
    replace hz := Lib.hid hz
    replace hr := Lib.hid hr
    go_enter Tryz.func8, Tryz.ntmps8
    go_wp2_with fail
    refine (lshown_any _ (hW.below hL.below)).mono ?_
    rintro e v1 ⟨rfl, hb⟩
    replace hL := hL.go hb
    clear hb
    have q0 := (hL.get (P := pBlk w.heap.size #[.bool neg, .slice A n c, .int .i64 k] 25) (by repeat (first | exact List.mem_cons_self | apply List.mem_cons_of_mem))).cell 0 _ rfl
    have q1 := (hL.get (P := pBlk w.heap.size #[.bool neg, .slice A n c, .int .i64 k] 25) (by repeat (first | exact List.mem_cons_self | apply List.mem_cons_of_mem))).cell 1 _ rfl
    have q2 := (hL.get (P := pBlk w.heap.size #[.bool neg, .slice A n c, .int .i64 k] 25) (by repeat (first | exact List.mem_cons_self | apply List.mem_cons_of_mem))).cell 2 _ rfl
    have htx := stext_t (hW.below hL.below).tab (hL.get (P := pN (.slice A n c) 1048576 N) (by repeat (first | exact List.mem_cons_self | apply List.mem_cons_of_mem))) (by decide)
    rw [show (⟨(Lib.decDigits N).toArray⟩ : ByteArray) = strL (Lib.decDigits N) from rfl] at htx
    obtain ⟨U, hU⟩ : ∃ U, strL (Lib.decDigits N) = U := ⟨_, rfl⟩
    have hUs : U.size = y := by rw [← hU, strL_size, hy.out]
    rw [hU] at htx
    replace htx := Lib.hid htx
    replace hU := Lib.hid hU
    go_wp2_with fail
    refine htx.out.mono ?_
    rintro e v2 ⟨rfl, hb⟩
    replace hL := hL.go hb
    clear hb htx q0 q1 q2
    have q0 := (hL.get (P := pBlk w.heap.size #[.bool neg, .slice A n c, .int .i64 k] 25) (by repeat (first | exact List.mem_cons_self | apply List.mem_cons_of_mem))).cell 0 _ rfl
    have q1 := (hL.get (P := pBlk w.heap.size #[.bool neg, .slice A n c, .int .i64 k] 25) (by repeat (first | exact List.mem_cons_self | apply List.mem_cons_of_mem))).cell 1 _ rfl
    have q2 := (hL.get (P := pBlk w.heap.size #[.bool neg, .slice A n c, .int .i64 k] 25) (by repeat (first | exact List.mem_cons_self | apply List.mem_cons_of_mem))).cell 2 _ rfl
    go_wp2_with fail
    refine (hrt.out _ (hW.below hL.below).tab (hL.get (P := pT (.slice A n c) 128 N) (by repeat (first | exact List.mem_cons_self | apply List.mem_cons_of_mem)))).mono ?_
    rintro e v3 ⟨rfl, hb⟩
    replace hL := hL.go hb
    clear hb q0 q1 q2 hrt
    have q0 := (hL.get (P := pBlk w.heap.size #[.bool neg, .slice A n c, .int .i64 k] 25) (by repeat (first | exact List.mem_cons_self | apply List.mem_cons_of_mem))).cell 0 _ rfl
    have q1 := (hL.get (P := pBlk w.heap.size #[.bool neg, .slice A n c, .int .i64 k] 25) (by repeat (first | exact List.mem_cons_self | apply List.mem_cons_of_mem))).cell 1 _ rfl
    have q2 := (hL.get (P := pBlk w.heap.size #[.bool neg, .slice A n c, .int .i64 k] 25) (by repeat (first | exact List.mem_cons_self | apply List.mem_cons_of_mem))).cell 2 _ rfl
    by_cases c1 : (1900 : Int) < y
    · skip
      go_wp2
      go_ret
      exact ⟨rfl, hL.below⟩
    by_cases c2 : 900 < (y : Int) + k
    · skip
      go_wp2
      go_ret
      exact ⟨rfl, hL.below⟩
    by_cases c3 : (y : Int) + k < -900
    · skip
      go_wp2
      go_ret
      exact ⟨rfl, hL.below⟩
    obtain ⟨hok, hitv⟩ := hit.out (by omega) (by omega) (by omega)
    have hly := layout_any neg k (hW.below hL.below).tab (hL.get (P := pT (.slice A n c) 128 N) (by repeat (first | exact List.mem_cons_self | apply List.mem_cons_of_mem)))
    rw [hR.out] at hly
    replace hly := Lib.hid hly
    replace hok := Lib.hid hok
    replace hitv := Lib.hid hitv
    go_wp2_with fail
    refine hly.out.mono ?_
    rintro e v4 ⟨rfl, hb⟩
    replace hL := hL.go hb
    clear hb hly q0 q1 q2
    go_wp2_with fail
    refine (scan_yes T ⟨1, neg, N, k, 0, false⟩ _ hok.out hitv.out hz.out (by omega) _ (rd_bytes1 _ T _ _)).mono ?_
    rintro e v5 ⟨A', n', c', rfl, hd, hb⟩
    simp only at hd ⊢
    have hd' := pItem_again hd.item
    replace hL := ((hL.go ((Below.refl _ _).alloc (Nat.le_refl _) _).drew).go hb).put (pT_st _ _ _) hd'
    replace hL := (hL.go ((Below.refl _ _).alloc (Nat.le_refl _) (.cells #[.int .i64 1, .bool neg, .slice A' n' c', .int .i64 k, .int .i64 0, .bool false] 40))).put (pBlk_st _ _ _) (pBlk_made v5 #[.int .i64 1, .bool neg, .slice A' n' c', .int .i64 k, .int .i64 0, .bool false] 40)
    clear hb hd hd'
    have q0 := (hL.get (P := pBlk w.heap.size #[.bool neg, .slice A n c, .int .i64 k] 25) (by repeat (first | exact List.mem_cons_self | apply List.mem_cons_of_mem))).cell 0 _ rfl
    have q1 := (hL.get (P := pBlk w.heap.size #[.bool neg, .slice A n c, .int .i64 k] 25) (by repeat (first | exact List.mem_cons_self | apply List.mem_cons_of_mem))).cell 1 _ rfl
    have q2 := (hL.get (P := pBlk w.heap.size #[.bool neg, .slice A n c, .int .i64 k] 25) (by repeat (first | exact List.mem_cons_self | apply List.mem_cons_of_mem))).cell 2 _ rfl
    have hcm := cmp_t (IsT.isN (hL.get (P := pT (.slice A' n' c') 2000 N) (by repeat (first | exact List.mem_cons_self | apply List.mem_cons_of_mem)))) (IsT.isN (hL.get (P := pT (.slice A n c) 128 N) (by repeat (first | exact List.mem_cons_self | apply List.mem_cons_of_mem)))) (by decide) (by decide)
    rw [cmpV_eq rfl] at hcm
    replace hcm := Lib.hid hcm
    cases neg
    all_goals
      go_wp2_with fail
      refine hcm.out.mono ?_
      rintro e v6 ⟨rfl, hb⟩
      replace hL := hL.go hb
      clear hb hcm q0 q1 q2
      go_wp2
      go_ret
      exact ⟨rfl, hL.below⟩
  · have hno1 := Lib.hid hno
    clear hb0 hno hNN
    go_enter Tryz.func8, Tryz.ntmps8
    go_wp2_with fail
    refine (lshown_any _ (hW.below hL.below)).mono ?_
    rintro e v1 ⟨rfl, hb⟩
    replace hL := hL.go hb
    clear hb
    have q0 := (hL.get (P := pBlk w.heap.size #[.bool neg, .slice A n c, .int .i64 k] 25) (by repeat (first | exact List.mem_cons_self | apply List.mem_cons_of_mem))).cell 0 _ rfl
    have q1 := (hL.get (P := pBlk w.heap.size #[.bool neg, .slice A n c, .int .i64 k] 25) (by repeat (first | exact List.mem_cons_self | apply List.mem_cons_of_mem))).cell 1 _ rfl
    have q2 := (hL.get (P := pBlk w.heap.size #[.bool neg, .slice A n c, .int .i64 k] 25) (by repeat (first | exact List.mem_cons_self | apply List.mem_cons_of_mem))).cell 2 _ rfl
    have htx := stext_t (hW.below hL.below).tab (hL.get (P := pN (.slice A n c) 1048576 N) (by repeat (first | exact List.mem_cons_self | apply List.mem_cons_of_mem))) (by decide)
    rw [show (⟨(Lib.decDigits N).toArray⟩ : ByteArray) = strL (Lib.decDigits N) from rfl] at htx
    obtain ⟨U, hU⟩ : ∃ U, strL (Lib.decDigits N) = U := ⟨_, rfl⟩
    have hUs : U.size = y := by rw [← hU, strL_size, hy.out]
    rw [hU] at htx
    replace htx := Lib.hid htx
    replace hU := Lib.hid hU
    go_wp2_with fail
    refine htx.out.mono ?_
    rintro e v2 ⟨rfl, hb⟩
    replace hL := hL.go hb
    clear hb htx q0 q1 q2
    have q0 := (hL.get (P := pBlk w.heap.size #[.bool neg, .slice A n c, .int .i64 k] 25) (by repeat (first | exact List.mem_cons_self | apply List.mem_cons_of_mem))).cell 0 _ rfl
    have q1 := (hL.get (P := pBlk w.heap.size #[.bool neg, .slice A n c, .int .i64 k] 25) (by repeat (first | exact List.mem_cons_self | apply List.mem_cons_of_mem))).cell 1 _ rfl
    have q2 := (hL.get (P := pBlk w.heap.size #[.bool neg, .slice A n c, .int .i64 k] 25) (by repeat (first | exact List.mem_cons_self | apply List.mem_cons_of_mem))).cell 2 _ rfl
    go_wp2_with fail
    refine ((hno1.out _ hL.below).1).mono ?_
    rintro e v3 ⟨rfl, hb⟩
    replace hL := hL.go hb
    clear hb q0 q1 q2
    go_wp2
    go_ret
    exact ⟨rfl, hL.below⟩
end Go.Proofs.YtjhdkdfiadlmcaaGreatDoor
namespace Go.Proofs.YtjhdkdfiadlmcaaGreatDoor
open Go.ChangeShapes Go.WideShapes Go.ChangeAt Go.RowKit Go.Cal
theorem bulk_one {H : Type} (d : DataW H) : 1 ≤ Rows.uptoBulk d := by
  cases d with
  | lit l => cases l <;> simp [Rows.uptoBulk]
  | _ => simp [Rows.uptoBulk]
theorem bulk_len {H : Type} : ∀ l : List (DataW H), l.length ≤ Rows.uptoBulkAll l
  | [] => by simp [Rows.uptoBulkAll]
  | d :: r => by
    have h1 := bulk_one d
    have h2 := bulk_len r
    simp only [Rows.uptoBulkAll, List.length_cons]
    omega
set_option maxRecDepth 100000 in
theorem argD_bulk {H : Type} {enc : TypeId × Value → H} {W : World} {v : Value} {d : DataW H} {p : List MemPlace} {sp : Nat → Bool} {hd : Bool} {base : Nat}
    (hv : Value.okWide Tryz.prog W .any base 25 v) (h : DataW.Trod enc Tryz.prog W 0 sp hd 25 v d p) :
    ∀ neg A n c k, v = .agg #[.bool neg, .slice A n c, .int .i64 k] → n ≤ Rows.uptoBulk d := by
  obtain ⟨fs, hu, hfs⟩ : ∃ fs, Tryz.prog.underlying 25 = some (.struct fs) ∧ fs.toList.map (fun f => (f.type, f.offset)) = [(4, 0), (23, 1), (3, 2)] := ⟨_, Tryz.underlying25, by kernel_rfl⟩
  have c0 : Tryz.prog.cellsOf 4 = 1 := by kernel_rfl
  have c1 : Tryz.prog.cellsOf 23 = 1 := by kernel_rfl
  have c2 : Tryz.prog.cellsOf 3 = 1 := by kernel_rfl
  have c3 : Tryz.prog.cellsOf 25 = 3 := by kernel_rfl
  unfold Value.okWide at hv
  rw [hu] at hv
  obtain ⟨cs, rfl, _, _⟩ := hv
  obtain ⟨fuel, h⟩ := h
  have e0 : (Value.agg cs).cells = cs := rfl
  rw [e0] at h
  cases fuel with
  | zero => simp [DataW.trod] at h
  | succ n =>
    unfold DataW.trod at h
    rw [hu] at h
    simp only at h
    split at h
    · rename_i hl
      rw [c3] at hl
      obtain ⟨xs, hm, hx⟩ := Option.map_eq_some_iff.1 h
      obtain ⟨f0, r0, h0, hf0, hr0⟩ := List.map_eq_cons_iff.1 hfs
      obtain ⟨f1, r1, h1, hf1, hr1⟩ := List.map_eq_cons_iff.1 hr0
      obtain ⟨f2, r2, h2, hf2, hr2⟩ := List.map_eq_cons_iff.1 hr1
      have h3 := List.map_eq_nil_iff.1 hr2
      injection hf0 with t0 o0
      injection hf1 with t1 o1
      injection hf2 with t2 o2
      rw [h0, h1, h2, h3] at hm
      simp only [List.mapM_cons, List.mapM_nil, Option.bind_eq_bind, Option.bind_eq_some_iff, Option.pure_def, Option.some.injEq, t0, t1, t2, o0, o1, o2, c0, c1, c2] at hm
      obtain ⟨x0, m0, y0, ⟨x1, m1, y1, ⟨x2, m2, _, rfl, rfl⟩, rfl⟩, rfl⟩ := hm
      obtain ⟨neg, e1, _⟩ := DataW.trod_bool Tryz.underlying4 m0
      obtain ⟨k, e3, _, wk⟩ := DataW.trod_int Tryz.underlying3 m2
      obtain ⟨d1, p1⟩ := x1
      intro neg' A n' c k' he
      injection he with he
      have e2 : ((cs.toList.drop 1).take 1) = [Value.slice A n' c] := by rw [he]; rfl
      rw [e2] at m1
      have hd : d = .agg [x0.1, d1, x2.1] := by
        have := (Prod.mk.inj hx).1
        rw [← this]
        rfl
      have hd1 : n' ≤ Rows.uptoBulk d1 := by
        rcases open_ints Tryz.underlying23 Tryz.underlying36 (by kernel_rfl) m1 with ⟨h1, _⟩ | ⟨a, len', cap', zs, h1, h2, h3, h4, h5, h6, h7, h8⟩
        · simp at h1
          omega
        · simp at h1
          obtain ⟨_, rfl, _⟩ := h1
          rw [(Prod.mk.inj h6).1]
          have hl : (lits IntKind.u64 (zs.take n') : List (DataW H)).length = n' := by
            unfold lits
            rw [List.length_map, List.length_take, h5]
            split <;> omega
          have := bulk_len (lits IntKind.u64 (zs.take n') : List (DataW H))
          rw [hl] at this
          simp only [Rows.uptoBulk]
          omega
      rw [hd]
      simp only [Rows.uptoBulk, Rows.uptoBulkAll]
      omega
    · cases h
end Go.Proofs.YtjhdkdfiadlmcaaGreatDoor
namespace Go.Proofs.YtjhdkdfiadlmcaaGreatDoor
open Go.ChangeShapes Go.WideShapes Go.ChangeAt Go.RowKit Go.Cal
set_option maxRecDepth 100000 in
theorem scanned_reads (os : Os) {H : Type} (enc : TypeId × Value → H) : ∃ places, DataW.whole enc Tryz.prog ((World.laidAll Tryz.prog os Rows.layoutScannedUptoRow.laid).forCall (fun _ _ => 0) ⟨#[], #[.agg #[.bool false, .slice none 0 0, .int .i64 0]], []⟩).memory Tryz.f8.params.toList Rows.layoutScannedSpec.vars false #[Value.agg #[.bool false, .slice none 0 0, .int .i64 0]].toList 8 = some ([.agg [.lit (.bool false), .nil, .lit (.int .i64 0)]], [], places) :=
  ⟨[], by kernel_rfl⟩
set_option maxRecDepth 100000 in
theorem layoutScanned_lifted (os : Os) (started : os.Started) (H : Type) (enc : TypeId × Value → H) (F : Stop.Interp) :
    ReturnsInHanded {} Tryz.checked os 8 .any ((Rows.OpenSpec.upto Rows.layoutScannedSpec).preRow enc Tryz.prog Tryz.f8 Rows.layoutScannedUptoRow.domain false Rows.layoutScannedUptoRow.laid) (((Rows.OpenSpec.upto Rows.layoutScannedSpec).at F).post enc Tryz.prog Tryz.f8 false true false false) := by
  obtain ⟨places, hx⟩ := scanned_reads os enc
  have hok : Input.okWideB Tryz.prog ((World.laidAll Tryz.prog os Rows.layoutScannedUptoRow.laid).forCall (fun _ _ => 0) ⟨#[], #[.agg #[.bool false, .slice none 0 0, .int .i64 0]], []⟩) 8 ⟨#[], #[.agg #[.bool false, .slice none 0 0, .int .i64 0]], []⟩ = true := by kernel_rfl
  refine returnsInHanded_of_row (C := Tryz.checked) (s := (Rows.OpenSpec.upto Rows.layoutScannedSpec)) own started (by kernel_rfl) Tryz.func8
    ⟨World.laidAll Tryz.prog os Rows.layoutScannedUptoRow.laid, fun _ _ => 0, ⟨#[], #[.agg #[.bool false, .slice none 0 0, .int .i64 0]], []⟩, World.laidAll_os _ _ _, World.shaped_of_ZipB (by kernel_rfl) (by kernel_rfl), (Input.okWide_of_okWideB (base := 0) hok).1, (Input.okWide_of_okWideB hok).2,
      OpenSpec.preRow_of_cond 8 hx (by kernel_rfl) (fun k hk => by cases hk; kernel_rfl) (by kernel_rfl) (by rw [MakeChecks.laidMetH_plain _ _ _ (by kernel_rfl)]; exact laidMet_laidAll _ (by kernel_rfl) (by kernel_rfl)), by
        simp only [Assume.holds]
        exact ⟨by simp, by simp, fun _ => Modest.zero, by simp, by simp⟩⟩ ?_
  intro W base args ds gs before hval0 hW _ hcond _ hL hsh _
  have hval : ∀ (j : Nat) t v, Tryz.f8.params[j]? = some t → args[j]? = some v → Value.okWide Tryz.prog W .any base t v := hval0
  have hW' := hW
  obtain ⟨p, q, hA0, hV, rfl, hfz, hnd⟩ := hW
  have hA : DataW.TrodAll enc Tryz.prog W 0 (fun _ => true) true Tryz.f8.params.toList args.toList ds p := hA0
  rw [Tryz.params8] at hA hval
  obtain ⟨v0, d0, rfl, rfl, h0⟩ := trodAll_one hA
  obtain ⟨rfl, rfl⟩ := trodVars_none hV
  have hlt := fun x hx => hW'.lt x hx
  simp only [List.append_nil] at hlt
  have hl0 : ∀ x ∈ p, x.block < W.heap.size := fun x hx => hlt x (by first | exact hx | simp [hx])
  have hbk := argD_bulk (hval 0 25 v0 rfl rfl) h0
  obtain ⟨n0, u0, k0, rfl, ha0, kb0, kc0⟩ := argD_of (hval 0 25 v0 rfl rfl) h0 hl0
  have hbb : Rows.uptoBulkAll [d0] ≤ 1048576 := by
    have h1 := of_decide_eq_true (hcond _ rfl)
    simpa using h1
  have hlen : ∀ A n c, u0 = .slice A n c → n ≤ 1048576 := fun A n c e => by
    have h1 := hbk n0 A n c k0 (by rw [e])
    simp only [Rows.uptoBulkAll] at hbb
    omega
  have hT : LyW W := lyW_of_laid (laid := Rows.layoutScannedUptoRow.laid) (by rw [MakeChecks.laidMetH_plain _ _ _ (by kernel_rfl)] at hL; exact hL) hsh (by dsimp only [Rows.layoutScannedUptoRow]; repeat (first | exact List.mem_cons_self | apply List.mem_cons_of_mem)) (by dsimp only [Rows.layoutScannedUptoRow]; repeat (first | exact List.mem_cons_self | apply List.mem_cons_of_mem)) (by dsimp only [Rows.layoutScannedUptoRow]; repeat (first | exact List.mem_cons_self | apply List.mem_cons_of_mem))
  clear hA0 hval0
  simp only [List.append_nil] at hW'
  refine (layoutScanned_any u0 n0 k0 W hT ha0 ⟨kb0, kc0⟩ hlen).mono fun e W' ⟨he, hw⟩ => ?_
  subst he
  exact ⟨_, rfl, _, _, _, [], _, [], hW', trodAll_mk1 (shut_bool Tryz.underlying4 _), trodAll_mk1 (Below.trod laid_out (by kernel_rfl) (of_decide_eq_true (by kernel_rfl)) h0 hw hl0), rfl, hw.frame _, fun h => by cases h⟩
theorem layoutScanned_saidUpto : Rows.LayoutScannedUptoSaid :=
  OpenClaim.holds_of_cond 8 Tryz.f8 rfl rfl rfl rfl rfl rfl rfl ⟨rfl, rfl, rfl, rfl, rfl⟩ rfl rfl rfl rfl rfl (by kernel_rfl) Tryz.func8 (by kernel_rfl)
    (of_decide_eq_true (by kernel_rfl)) (by unfold Func.isWrapper; first | (rw [if_pos (by decide +kernel)]; kernel_rfl) | (rw [if_neg (by decide +kernel)]; exact ⟨rfl, rfl⟩))
    (fun os started H enc _ F => by rw [OpenClaim.pre_eq_preRow]; exact layoutScanned_lifted os started H enc F)
theorem layoutScanned_plain (f : FuncId) (fn : Func) (hf : Tryz.pinned.checked.prog.funcNamed "caliper/caliperlaw12.LayoutScanned" = some f) (hfn : Tryz.pinned.checked.prog.funcs[f]? = some fn) :
    true = Tryz.pinned.checked.prog.looks [] ∧ ∀ (j : Nat) t, fn.params[j]? = some t → Tryz.pinned.checked.prog.wantsStandIn t = false := by
  obtain rfl : f = 8 := Option.some.inj ((show Tryz.prog.funcNamed "caliper/caliperlaw12.LayoutScanned" = some 8 by kernel_rfl).symm.trans hf) |>.symm
  obtain rfl : fn = Tryz.f8 := (Option.some.inj (Tryz.func8.symm.trans hfn)).symm
  refine ⟨by kernel_rfl, fun j t ht => ?_⟩
  rw [Tryz.params8] at ht
  have hm : t ∈ [25] := by simpa using Array.mem_of_getElem? ht
  have hall : ([25].all fun u => !Tryz.prog.wantsStandIn u) = true := by kernel_rfl
  exact (show Tryz.prog.wantsStandIn t = false by simpa using List.all_eq_true.1 hall t hm)
theorem layoutScanned_card : Rows.LayoutScannedUptoCardSaid :=
  Claim7.holds_tied_plain_at .later [] _ _ _ _ layoutScanned_saidUpto (fun _ h => by cases h) (by kernel_rfl) (fun _ h => by cases h) layoutScannedUpto_row_tie rfl ⟨rfl, rfl⟩ (by kernel_rfl) rfl layoutScanned_plain (by kernel_rfl)
end Go.Proofs.YtjhdkdfiadlmcaaGreatDoor
