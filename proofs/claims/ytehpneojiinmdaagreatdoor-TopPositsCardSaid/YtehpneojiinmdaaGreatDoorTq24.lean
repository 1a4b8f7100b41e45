/- Plain: what Short and Full tell are right digits. Conditions: none. -/
/- Print, PrintFull: walked. Conditions: the variables that values and words read. -/
/- Rows over print: the map of words out of the row's condition; a start that meets it. Conditions: none. -/
/- Parse: what number a text tells, walked. Conditions: none. -/
/- Parse: what is thrown is caught. Conditions: none. -/
/- Parse, walked. Conditions: the variables that values read. -/
/- Parse, walked: behind the scan. Conditions: the variables that values read. -/
import Derived.Test.YtehpneojiinmdaaGreatDoorTq23
import Derived.Test.YtehpneojiinmdaaGreatDoorTq16
import Derived.Test.YtehpneojiinmdaaGreatDoorTq15
import Derived.Test.YtehpneojiinmdaaGreatDoorTq21
import Derived.Defers
import Derived.Recover
import Derived.Tactics2
import Derived.Test.YtehpneojiinmdaaGreatDoorTq22
import Derived.Test.YtehpneojiinmdaaGreatDoorTq14
namespace Go.Proofs.YtehpneojiinmdaaGreatDoor
open Go.RowKit Go.Cal
theorem Fin.lims {id p : Int} {ng : Bool} {K mv : Nat} {ev : Int} (h : Fin id p ng K mv ev) : mostE id ng = 0 ∧ (K : Int) ≤ mostV id ng ∧ (fK id ≠ 4 → 0 < K) ∧ (K : Int) ≤ fitM id := by
  obtain ⟨x1, x2, x3, x4⟩ := class_two h.h1 h.h2 h.p0 h.p1 h.cl
  rw [h.key] at x1 x2 x3
  rw [h.ng] at x2 x4
  refine ⟨?_, x2, fun h4 => by have := x3 h4; omega, x1⟩
  have a1 := h.h1
  have a2 := h.h2
  unfold mostE
  rw [if_neg (by omega), if_neg (fun h => x4 h.1 h.2)]
/-- Where the search stands still, and what Short makes of it. -/
theorem short_some {id p : Int} {ng : Bool} {K mv : Nat} {ev : Int} (h : Fin id p ng K mv ev) :
    ∃ (d : Nat) (k : Int), itvHas (limV id ng K) d k = true ∧ (d = flQ mv ev k ∨ (d = flQ mv ev k + 1 ∧ 0 < flR mv ev k)) ∧ min ev 0 ≤ k ∧ k ≤ 700 ∧ d ≤ hasM mv ev + 1 ∧
      ∀ F, hasM mv ev + 1 < 10 ^ F → ∃ z : Nat, shortV (limV id ng K) mv ev F = (d / 10 ^ z, k + z) ∧ d / 10 ^ z * 10 ^ z = d ∧ d / 10 ^ z % 10 ≠ 0 ∧ z < F := by
  obtain ⟨hE, x2, hK0, -⟩ := h.lims
  obtain ⟨b1, b2, b3, b4⟩ := h.bnd
  have hns := nig_some hE x2 hK0 h.mag
  have hlb := lgV_bnd b1 (by simpa using b2) ⟨b3, b4⟩
  have hlb2 := lgV_ge b1 (by simpa using b2) ⟨b3, b4⟩
  obtain ⟨d, k, e1, e2, e3, e4⟩ := seekV_is 3000 (lgV mv ev) (min ev 0) (by omega) (by decide) hns
  obtain ⟨n1, n2⟩ := nearV_some e2
  have hk : min ev 0 ≤ k := by omega
  have hq := flQ_le (m := mv) (e := ev) hk
  have hd : d ≤ hasM mv ev + 1 := by
    rcases n2 with rfl | ⟨rfl, _⟩
    · omega
    · omega
  refine ⟨d, k, n1, n2, hk, by omega, hd, fun F hF => ?_⟩
  obtain ⟨z, z1, z2, z3, z4⟩ := stripV_is F d k (itv_pos n1) (by omega)
  refine ⟨z, ?_, z2, z3, z4⟩
  unfold shortV
  rw [e1]
  exact z1
theorem right_of {d z : Nat} {k : Int} (h2 : d / 10 ^ z % 10 ≠ 0) (h3 : d < 10 ^ 2000) (hz : z < 2000) (hk : -2000 ≤ k ∧ k ≤ 700) : DRight (d / 10 ^ z) (k + z) := by
  refine .inr ⟨?_, h2, ?_, by omega, by omega⟩
  · rcases Nat.eq_zero_or_pos (d / 10 ^ z) with h | h
    · rw [h] at h2; omega
    · exact h
  · exact (padd_dec 2000 _ (by decide) (Nat.lt_of_le_of_lt (Nat.div_le_self _ _) h3)).2
theorem short_right {id p : Int} {ng : Bool} {K mv : Nat} {ev : Int} (h : Fin id p ng K mv ev) : DRight (shortV (limV id ng K) mv ev 2000).1 (shortV (limV id ng K) mv ev 2000).2 := by
  obtain ⟨b1, b2, b3, b4⟩ := h.bnd
  obtain ⟨d, k, n1, n2, n3, n4, n5, n6⟩ := short_some h
  have hM := (hasM_bnd b2 ⟨b3, b4⟩ (show 1991 ≤ 2000 by decide)).1
  obtain ⟨z, z1, z2, z3, z4⟩ := n6 2000 hM
  rw [z1]
  exact right_of z3 (Nat.lt_of_le_of_lt n5 hM) z4 ⟨by omega, n4⟩
theorem full_right {id p : Int} {ng : Bool} {K mv : Nat} {ev : Int} (h : Fin id p ng K mv ev) : DRight (fullV mv ev 2000).1 (fullV mv ev 2000).2 := by
  obtain ⟨b1, b2, b3, b4⟩ := h.bnd
  have hM := (hasM_bnd b2 ⟨b3, b4⟩ (show 1991 ≤ 2000 by decide)).1
  have hM1 : hasM mv ev < 10 ^ 2000 := Nat.lt_of_succ_lt hM
  obtain ⟨z, z1, z2, z3, z4⟩ := stripV_is 2000 (hasM mv ev) (hasK ev) (hasM_pos b1) hM1
  unfold fullV
  rw [z1]
  refine right_of z3 hM1 z4 ?_
  unfold hasK
  split
  · decide
  · omega
end Go.Proofs.YtehpneojiinmdaaGreatDoor
namespace Go.Proofs.YtehpneojiinmdaaGreatDoor
open Go.RowKit Go.Cal
/-- A pattern's magnitude and what its number is, as Short and Full read them. -/
def priK (id p : Int) : Nat := (partK id p).toNat
/-- The shortest digits of a pattern, and all. -/
def shoD (id p : Int) : Nat × Int := shortV (limV id (partN id p) (priK id p)) (decM id p) (decE id p) 2000
def fulD (id p : Int) : Nat × Int := fullV (decM id p) (decE id p) 2000
/-- The text of a pattern. -/
def priT (id p : Int) : List UInt8 := if fitsV id p ≠ 0 then [] else if classV id p = 2 then lyT (partN id p) (shoD id p).1 (shoD id p).2 else nfT id p
/-- The whole text of a pattern. -/
def fulT (id p : Int) : List UInt8 := if fitsV id p ≠ 0 then [] else if classV id p = 2 then lyT (partN id p) (fulD id p).1 (fulD id p).2 else nfT id p
theorem fits_two {id p : Int} (hf : fitsV id p = 0) : 1 ≤ id ∧ id < 15 ∧ p < 2 ^ (fW id).toNat := by
  unfold fitsV at hf
  split at hf
  · cases hf
  · rename_i h
    split at hf
    · exact ⟨by omega, by omega, by omega⟩
    · cases hf
theorem fin_of {id p : Int} (h1 : 1 ≤ id) (h2 : id < 15) (hp0 : 0 ≤ p) (hp1 : p < 2 ^ (fW id).toNat) (hc : classV id p = 2) : Fin id p (partN id p) (priK id p) (decM id p) (decE id p) := by
  have hk : partK id p = ((priK id p : Nat) : Int) := by
    have := partK_nonneg (id := id) hp0
    unfold priK
    omega
  refine ⟨h1, h2, hp0, hp1, hc, rfl, hk, ?_⟩
  unfold decM decE
  rw [if_pos hc, if_pos hc]
  rfl
theorem class_all (id p : Int) : classV id p = 1 ∨ classV id p = 2 ∨ classV id p = 3 ∨ classV id p = 4 := by
  unfold classV
  repeat' split
  all_goals simp
set_option maxRecDepth 100000 in
set_option maxHeartbeats 4000000 in
theorem print_any (id p : Int) (hp0 : 0 ≤ p) (hp1 : p < 18446744073709551616) (w : World) (hW : PrW w) :
    Calls Tryz.prog 38 #[.int .i64 id, .int .u64 p] w fun e w' => e = .returned (.tuple #[.string (strL (priT id p)), .int .i64 (fitsV id p)]) ∧ Below w.heap.size w w' := by
  by_cases hf : fitsV id p ≠ 0
  · have ht := Lib.hid (told_no 78 id p hp0 hp1 hf w hW)
    have hT : priT id p = [] := by unfold priT; rw [if_pos hf]
    rw [hT]
    clear hf hT hW hp0 hp1
    generalize fitsV id p = E at ht ⊢
    go_enter Tryz.func38, Tryz.ntmps38
    go_wp2_with fail
    refine ht.out.mono ?_
    rintro e w1 ⟨rfl, hb⟩
    go_wp2_with fail
    go_ret2
    exact ⟨(by first | rfl | trivial), hb⟩
  · have hf0 : fitsV id p = 0 := by simpa using hf
    obtain ⟨h1, h2, h3⟩ := fits_two hf0
    rw [hf0]
    by_cases hc : classV id p = 2
    · have hfin := fin_of h1 h2 hp0 h3 hc
      have hT : priT id p = lyT (partN id p) (shoD id p).1 (shoD id p).2 := by unfold priT; rw [if_neg hf, if_pos hc]
      rw [hT]
      have ht := Lib.hid (told_fin_short hfin w hW (shoD id p) rfl (short_right hfin))
      clear hf hf0 hT hW hp0 hp1 h1 h2 h3 hc hfin
      generalize lyT (partN id p) (shoD id p).1 (shoD id p).2 = S at ht ⊢
      go_enter Tryz.func38, Tryz.ntmps38
      go_wp2_with fail
      refine ht.out.mono ?_
      rintro e w1 ⟨rfl, hb⟩
      go_wp2_with fail
      go_ret2
      exact ⟨(by first | rfl | trivial), hb⟩
    · have hT : priT id p = nfT id p := by unfold priT; rw [if_neg hf, if_neg hc]
      rw [hT]
      have ht := Lib.hid (told_wrd 78 h1 h2 hp0 h3 (by rcases class_all id p with h | h | h | h <;> simp_all) w hW)
      clear hf hf0 hT hW hp0 hp1 h1 h2 h3 hc
      generalize nfT id p = S at ht ⊢
      go_enter Tryz.func38, Tryz.ntmps38
      go_wp2_with fail
      refine ht.out.mono ?_
      rintro e w1 ⟨rfl, hb⟩
      go_wp2_with fail
      go_ret2
      exact ⟨(by first | rfl | trivial), hb⟩
set_option maxRecDepth 100000 in
set_option maxHeartbeats 4000000 in
theorem pfull_any (id p : Int) (hp0 : 0 ≤ p) (hp1 : p < 18446744073709551616) (w : World) (hW : PrW w) :
    Calls Tryz.prog 15 #[.int .i64 id, .int .u64 p] w fun e w' => e = .returned (.tuple #[.string (strL (fulT id p)), .int .i64 (fitsV id p)]) ∧ Below w.heap.size w w' := by
  by_cases hf : fitsV id p ≠ 0
  · have ht := Lib.hid (told_no 41 id p hp0 hp1 hf w hW)
    have hT : fulT id p = [] := by unfold fulT; rw [if_pos hf]
    rw [hT]
    clear hf hT hW hp0 hp1
    generalize fitsV id p = E at ht ⊢
    go_enter Tryz.func15, Tryz.ntmps15
    go_wp2_with fail
    refine ht.out.mono ?_
    rintro e w1 ⟨rfl, hb⟩
    go_wp2_with fail
    go_ret2
    exact ⟨(by first | rfl | trivial), hb⟩
  · have hf0 : fitsV id p = 0 := by simpa using hf
    obtain ⟨h1, h2, h3⟩ := fits_two hf0
    rw [hf0]
    by_cases hc : classV id p = 2
    · have hfin := fin_of h1 h2 hp0 h3 hc
      have hT : fulT id p = lyT (partN id p) (fulD id p).1 (fulD id p).2 := by unfold fulT; rw [if_neg hf, if_pos hc]
      rw [hT]
      have ht := Lib.hid (told_fin_full hfin w hW (fulD id p) rfl (full_right hfin))
      clear hf hf0 hT hW hp0 hp1 h1 h2 h3 hc hfin
      generalize lyT (partN id p) (fulD id p).1 (fulD id p).2 = S at ht ⊢
      go_enter Tryz.func15, Tryz.ntmps15
      go_wp2_with fail
      refine ht.out.mono ?_
      rintro e w1 ⟨rfl, hb⟩
      go_wp2_with fail
      go_ret2
      exact ⟨(by first | rfl | trivial), hb⟩
    · have hT : fulT id p = nfT id p := by unfold fulT; rw [if_neg hf, if_neg hc]
      rw [hT]
      have ht := Lib.hid (told_wrd 41 h1 h2 hp0 h3 (by rcases class_all id p with h | h | h | h <;> simp_all) w hW)
      clear hf hf0 hT hW hp0 hp1 h1 h2 h3 hc
      generalize nfT id p = S at ht ⊢
      go_enter Tryz.func15, Tryz.ntmps15
      go_wp2_with fail
      refine ht.out.mono ?_
      rintro e w1 ⟨rfl, hb⟩
      go_wp2_with fail
      go_ret2
      exact ⟨(by first | rfl | trivial), hb⟩
end Go.Proofs.YtehpneojiinmdaaGreatDoor
namespace Go.Proofs.YtehpneojiinmdaaGreatDoor
open Go.ChangeShapes Go.WideShapes Go.ChangeAt Go.RowKit Go.Cal Go.Maps
theorem zero_strP (w : World) : (zeroValue 9).run Tryz.prog w = .ok (.string ⟨#[]⟩) w := by kernel_rfl
theorem cells_strP {v : Value} (h : v.formed Tryz.prog 9 = true) : v.cells.toList = [v] := by
  cases v with
  | agg cs => simp [Value.formed, Tryz.underlying9] at h
  | _ => rfl
set_option maxRecDepth 100000 in
theorem wrd_one {W wr : World} {b n : Nat} {es : Array MapEntry} {clock : Nat} (hb : wr.heap[b]? = some (.map es clock)) (F : Go.WideElems.Fit Tryz.prog 3 (Go.WideElems.elemAt (fun _ => ()) Tryz.prog W 0 (fun _ => true) false n 9) es clock) (k : Int) (l : List UInt8) (hwf : (Lit.int .i64 k).wf = true)
    (hD : ∀ zd : DataW Unit, (DataW.map ((es.toList.map (Go.WideElems.rg Tryz.prog 3 (Go.WideElems.elemAt (fun _ => ()) Tryz.prog W 0 (fun _ => true) false n 9))).foldr DataW.insert [])).atKey (.int .i64 k) zd = .lit (.string l)) :
    (Instr.lookup 153 (.map (some b)) (.int .i64 k) false).run Tryz.prog wr = .ok (.string (strL l)) wr := by
  have hkey : keyOf Tryz.prog 3 (.int .i64 k) = some (.int .i64 k) := keyOf_int_mk Tryz.underlying3 hwf
  rcases fit_look false law_int Tryz.underlying153 (zero_strP wr) hb F hkey with ⟨_, _, hz⟩ | ⟨e0, y, _, _, hrun, hR, hy, _⟩
  · have := (hz .nil).symm.trans (hD .nil)
    cases this
  · have h1 : y.1 = .lit (.string l) := (hy .nil).symm.trans (hD .nil)
    unfold Go.WideElems.elemAt at hR
    split at hR
    · rename_i hf
      rw [cells_strP hf] at hR
      obtain ⟨s, hs, hx, _⟩ := DataW.trod_string Tryz.underlying9 hR
      rw [hx] at h1
      have hl : s.data.toList = l := by
        have h2 : (DataW.lit (.string s.data.toList) : DataW Unit) = DataW.lit (.string l) := h1
        injection h2 with h2
        injection h2
      have hv := (List.cons.inj hs).1
      rw [hrun]
      subst hl
      simp [hv, strL]
    · cases hR
theorem wrdW_of_laid {W : World} {laid : List (String × DataW Unit)} (h : laidMet Tryz.prog laid W) (hm : ("caliper/print.words", Rows.laid_caliper_print_words) ∈ laid) : WrdW W := by
  obtain ⟨ps, hl, _⟩ := h
  obtain ⟨g, t, cs, fuel, p, hg, ht, hv, hd⟩ := laidVars_mem hl hm
  obtain rfl := Option.some.inj ((show Tryz.prog.globalNamed "caliper/print.words" = some 3 by kernel_rfl).symm.trans hg)
  obtain rfl := Option.some.inj ((show (Tryz.prog.globals[3]?).map (·.type) = some 153 by kernel_rfl).symm.trans ht)
  have hd' : DataW.trod (fun _ => ()) Tryz.prog W 0 (fun _ => true) false fuel 153 cs.toList = some (.map [(.int .i64 1, .lit (.string [48])), (.int .i64 3, .lit (.string [105, 110, 102])), (.int .i64 4, .lit (.string [110, 97, 110]))], p) := hd
  rcases Go.WideElems.open_map Tryz.underlying153 hd' with ⟨_, hx⟩ | ⟨b, es, clock, n, _, hcs, hb, _, F, hx⟩
  · cases hx
  · simp only [Prod.mk.injEq] at hx
    obtain ⟨hD, _⟩ := hx
    have hc : W.cell? ⟨3, 0, none⟩ = some (.map (some b)) := by
      have := World.var?_cell hg hv 0
      rw [Array.eq_one_of_toList hcs] at this
      simpa using this
    have hbl : b < W.heap.size := (Array.getElem?_eq_some_iff.1 hb).1
    refine ⟨World.block_lt_of_cell? W ⟨3, 0, none⟩ hc, _, hc, fun wr hr => ?_⟩
    have hbr : wr.heap[b]? = some (.map es clock) := by rw [hr.block b hbl]; exact hb
    intro c hk
    rcases hk with rfl | rfl | rfl
    · exact wrd_one hbr F 1 [48] (by decide) (fun zd => by rw [← hD]; rfl)
    · exact wrd_one hbr F 3 [105, 110, 102] (by decide) (fun zd => by rw [← hD]; rfl)
    · exact wrd_one hbr F 4 [110, 97, 110] (by decide) (fun zd => by rw [← hD]; rfl)
end Go.Proofs.YtehpneojiinmdaaGreatDoor
namespace Go.Proofs.YtehpneojiinmdaaGreatDoor
open Go.RowKit Go.Cal
theorem xdec_s {w : World} {d : Value} {m N : Nat} (neg : Bool) (k : Int) (h : IsN w d m N) (hm : m ≤ 1048576) (hN : N < 18446744073709551616 ^ 128) (hk : -5000 ≤ k ∧ k ≤ 5000) :
    Calls Tryz.prog 141 #[.bool neg, d, .int .i64 k] w fun e w' => ∃ A5 n5 c5, e = .returned (.tuple #[.agg #[.bool neg, .slice A5 n5 c5, .int .i64 k, .int .i64 k], .bool true]) ∧ IsT w' (.slice A5 n5 c5) 128 N ∧ Below w.heap.size w w' := by
  refine (xdec_yes neg k h hm hN hk).mono ?_
  rintro e w' ⟨v, rfl, hv, hb⟩
  obtain ⟨A, c, zs, rfl, -⟩ := id hv
  exact ⟨A, _, c, rfl, hv, hb⟩
set_option maxRecDepth 100000 in
set_option maxHeartbeats 1000000 in
theorem number_near (kd : Int) (neg cut : Bool) {A : Option Addr} {n c m D : Nat} (k : Int) {w : World} (h : IsN w (.slice A n c) m D) (hm : m ≤ 1048576) (hN : D < 18446744073709551616 ^ 128) (hk : -5000 ≤ k ∧ k ≤ 5000) :
    Calls Tryz.prog 91 #[.agg #[.int .i64 kd, .bool neg, .slice A n c, .int .i64 k, .int .i64 0, .bool cut]] w fun e w' => ∃ A5 n5 c5, e = .returned (.agg #[.bool neg, .slice A5 n5 c5, .int .i64 k, .int .i64 k]) ∧ IsT w' (.slice A5 n5 c5) 128 D ∧ Below w.heap.size w w' := by
  have hb0 : Below w.heap.size w ((w.alloc (.cells #[.int .i64 kd, .bool neg, .slice A n c, .int .i64 k, .int .i64 0, .bool cut] 145)).alloc (.cells #[.bool false, .slice none 0 0, .int .i64 0, .int .i64 0] 52)) := ((Below.refl _ _).alloc (Nat.le_refl _) _).alloc (by simp) _
  have hd := Lib.hid (xdec_s neg k (h.below hb0) hm hN hk)
  have hp0 : pBlk (w.heap.size + 1) #[.bool false, .slice none 0 0, .int .i64 0, .int .i64 0] 52 ((w.alloc (.cells #[.int .i64 kd, .bool neg, .slice A n c, .int .i64 k, .int .i64 0, .bool cut] 145)).alloc (.cells #[.bool false, .slice none 0 0, .int .i64 0, .int .i64 0] 52)) := by
    have := pBlk_made (w.alloc (.cells #[.int .i64 kd, .bool neg, .slice A n c, .int .i64 k, .int .i64 0, .bool cut] 145)) #[.bool false, .slice none 0 0, .int .i64 0, .int .i64 0] 52
    rw [show (w.alloc (.cells #[.int .i64 kd, .bool neg, .slice A n c, .int .i64 k, .int .i64 0, .bool cut] 145)).heap.size = w.heap.size + 1 by simp] at this
    exact this
  replace hN := Lib.hid hN
  clear h
  go_enter Tryz.func91, Tryz.ntmps91
  go_wp2_with fail
  refine hd.out.mono ?_
  rintro e w1 ⟨A5, n5, c5, rfl, hv, hb⟩
  have hz := hb.size
  simp at hz
  have hB : Below w.heap.size w w1 := hb0.trans (hb.mono (by simp; omega))
  have hp1 := pBlk_st _ _ _ _ _ (pBlk_st _ _ _ _ _ hp0 hb) ((Below.refl _ _).alloc (Nat.le_refl _) (.cells #[.bool false, .slice none 0 0, .int .i64 0, .int .i64 0] 52))
  have hv0 := hv.below ((Below.refl _ _).alloc (Nat.le_refl _) (.cells #[.bool false, .slice none 0 0, .int .i64 0, .int .i64 0] 52))
  go_wp2_with (first
    | ((with_reducible show wpList _ _ _ (Oper.mk _ (Op.store 52 _ _) _ _ _ _ :: _) _ _); refine wpList_store_keep _ rfl 52 _ _ rfl w1.heap.size #[.bool neg, .slice A5 n5 c5, .int .i64 k, .int .i64 k] #[.bool false, .slice none 0 0, .int .i64 0, .int .i64 0] 52 rfl rfl (pBlk_made w1 #[.bool false, .slice none 0 0, .int .i64 0, .int .i64 0] 52) exact_size rfl (by simp [Value.oneCell']) noU ?_; intro w2 hp2 hb2 hk2; obtain ⟨r0, r1, r2, r3⟩ := cells4 hp2; have hq := pBlk_keep hp1 hb2 (by omega); have hv2 := hk2 _ _ _ hv0)
    | ((with_reducible show wpList _ _ _ (Oper.mk _ (Op.store 52 _ _) _ _ _ _ :: _) _ _); refine wpList_store_keep _ rfl 52 _ _ rfl (w.heap.size + 1) #[.bool neg, .slice A5 n5 c5, .int .i64 k, .int .i64 k] #[.bool false, .slice none 0 0, .int .i64 0, .int .i64 0] 52 rfl rfl hq exact_size rfl (by simp [Value.oneCell']) noU ?_; intro w3 hp3 hb3 hk3; obtain ⟨s0, s1, s2, s3⟩ := cells4 hp3; have hv3 := hk3 _ _ _ hv2))
  have hB3 : Below w.heap.size w w3 := ((hB.alloc hB.size _).trans (hb2.mono hB.size)).trans (hb3.mono (Nat.le_succ _))
  exact bodyPost_ret (v := .agg #[.bool neg, .slice A5 n5 c5, .int .i64 k, .int .i64 k]) (by simp [results, Tryz.results91, go_sem, s0, s1, s2, s3]) rfl ⟨A5, n5, c5, rfl, hv3, hB3⟩
theorem pBlk.othX {g g' : Nat} {cs : Array Value} {t : TypeId} {w : World} (h : pBlk g cs t w) (hne : g ≠ g') (i : Nat) (u : Value) : pBlk g cs t (w.setCell ⟨g', i, none⟩ u) := by
  unfold pBlk at *
  simp only [World.setCell, Array.getElem?_modify]
  rw [if_neg (fun e => hne e.symm)]
  exact h
set_option maxRecDepth 100000 in
set_option maxHeartbeats 2000000 in
theorem number_far (kd : Int) (neg cut : Bool) (A : Option Addr) (n c : Nat) (k big : Int) (hbg : big = 1 ∨ big = -1) (w : World) :
    Calls Tryz.prog 91 #[.agg #[.int .i64 kd, .bool neg, .slice A n c, .int .i64 k, .int .i64 big, .bool cut]] w fun e w' => ∃ A5 n5 c5, e = .returned (.agg #[.bool neg, .slice A5 n5 c5, .int .i64 (big * 1000), .int .i64 (big * 1000)]) ∧ IsT w' (.slice A5 n5 c5) 128 1 ∧ Below w.heap.size w w' := by
  have hb0 : Below w.heap.size w ((w.alloc (.cells #[.int .i64 kd, .bool neg, .slice A n c, .int .i64 k, .int .i64 big, .bool cut] 145)).alloc (.cells #[.bool false, .slice none 0 0, .int .i64 0, .int .i64 0] 52)) := ((Below.refl _ _).alloc (Nat.le_refl _) _).alloc (by simp) _
  have hp0 : pBlk (w.heap.size + 1) #[.bool false, .slice none 0 0, .int .i64 0, .int .i64 0] 52 ((w.alloc (.cells #[.int .i64 kd, .bool neg, .slice A n c, .int .i64 k, .int .i64 big, .bool cut] 145)).alloc (.cells #[.bool false, .slice none 0 0, .int .i64 0, .int .i64 0] 52)).drew := by
    have := pBlk_st _ _ _ _ _ (pBlk_made (w.alloc (.cells #[.int .i64 kd, .bool neg, .slice A n c, .int .i64 k, .int .i64 big, .bool cut] 145)) #[.bool false, .slice none 0 0, .int .i64 0, .int .i64 0] 52) (Below.refl _ _).drew
    rw [show (w.alloc (.cells #[.int .i64 kd, .bool neg, .slice A n c, .int .i64 k, .int .i64 big, .bool cut] 145)).heap.size = w.heap.size + 1 by simp] at this
    exact this
  have hf0 : pBlk w.heap.size #[.int .i64 kd, .bool neg, .slice A n c, .int .i64 k, .int .i64 big, .bool cut] 145 ((w.alloc (.cells #[.int .i64 kd, .bool neg, .slice A n c, .int .i64 k, .int .i64 big, .bool cut] 145)).alloc (.cells #[.bool false, .slice none 0 0, .int .i64 0, .int .i64 0] 52)).drew := pBlk_st _ _ _ _ _ (pBlk_st _ _ _ _ _ (pBlk_made w #[.int .i64 kd, .bool neg, .slice A n c, .int .i64 k, .int .i64 big, .bool cut] 145) ((Below.refl _ _).alloc (Nat.le_refl _) (.cells #[.bool false, .slice none 0 0, .int .i64 0, .int .i64 0] 52))) (Below.refl _ _).drew
  have hof := Lib.hid fun w' => nof_x w' 1 (by decide)
  have hbn : (big != 0) = true := by rcases hbg with rfl | rfl <;> rfl
  have hl1 : -1 ≤ big := by omega
  have hl2 : big ≤ 1 := by omega
  have hwr := Lib.hid (show IntKind.i64.wrap (big * 1000) = big * 1000 by rw [IntKind.wrap_i64]; omega)
  go_enter Tryz.func91, Tryz.ntmps91
  go_wp2_with fail
  go_region_with (go_at_call 17; refine (hof.out _).mono ?_; rintro e w2 ⟨A2, n2, c2, rfl, hv2, hb2⟩; obtain ⟨hc2, hf2⟩ := bcell hb2)
  all_goals
    rw [hwr.out]
    have hno : ∀ (a b c d e f : Value), (∀ n, a ≠ .int .u64 n) → (∀ n, b ≠ .int .u64 n) → (∀ n, c ≠ .int .u64 n) → (∀ n, d ≠ .int .u64 n) → (∀ n, e ≠ .int .u64 n) → (∀ n, f ≠ .int .u64 n) → ∀ x ∈ (#[a, b, c, d, e, f] : Array Value).toList, ∀ n, x ≠ .int .u64 n := by
      intro a b c d e f ha hb hc hd he hf x hx
      simp at hx
      rcases hx with rfl | rfl | rfl | rfl | rfl | rfl <;> assumption
    have hf2' := pBlk_st _ _ _ _ _ hf0 hb2
    have hp2 := pBlk_st _ _ _ _ _ hp0 hb2
    have hvf := IsT.apartX (i := 3) (u := .int .i64 (big * 1000)) (IsT.apartX (i := 2) (u := .slice A2 n2 c2) hv2 hf2' (hno _ _ _ _ _ _ (by simp) (by simp) (by simp) (by simp) (by simp) (by simp))) (hf2'.setX 2 (.slice A2 n2 c2)) (hno _ _ _ _ _ _ (by simp) (by simp) (by simp) (by simp) (by simp) (by simp))
    have hff := (hf2'.setX 2 (.slice A2 n2 c2)).setX 3 (.int .i64 (big * 1000))
    have hpf := (hp2.othX (g' := w.heap.size) (by omega) 2 (.slice A2 n2 c2)).othX (g' := w.heap.size) (by omega) 3 (.int .i64 (big * 1000))
    have hBw : Below w.heap.size w w2 := hb0.trans ((Below.refl _ _).drew.trans (hb2.mono (by simp; omega)))
    have hBf := (hBw.setCell (p := ⟨w.heap.size, 2, none⟩) (Nat.le_refl _) (.slice A2 n2 c2)).setCell (p := ⟨w.heap.size, 3, none⟩) (Nat.le_refl _) (.int .i64 (big * 1000))
    generalize ((w2.setCell ⟨w.heap.size, 2, none⟩ (.slice A2 n2 c2)).setCell ⟨w.heap.size, 3, none⟩ (.int .i64 (big * 1000))) = w3 at hvf hff hpf hBf ⊢
    have y1 := pBlk.cell hff 1 (.bool neg) rfl
    have y2 := pBlk.cell hff 2 (.slice A2 n2 c2) rfl
    have y3 := pBlk.cell hff 3 (.int .i64 (big * 1000)) rfl
    have hd := Lib.hid (xdec_s neg (big * 1000) (IsT.isN hvf) (by decide) (by decide) ⟨by omega, by omega⟩)
    clear hno hf2' hp2 hBw hc2 hf2 hf0 hp0 hv2 hb2 hff
    go_wp2_with fail
    refine hd.out.mono ?_
    rintro e w4 ⟨A5, n5, c5, rfl, hv, hb⟩
    have hz := hb.size
    have hzl : w.heap.size + 1 < w3.heap.size := by
      have := hpf
      unfold pBlk at this
      exact (Array.getElem?_eq_some_iff.1 this).1
    have hB : Below w.heap.size w w4 := hBf.trans (hb.mono (by omega))
    have hp1 := pBlk_st _ _ _ _ _ (pBlk_st _ _ _ _ _ hpf hb) ((Below.refl _ _).alloc (Nat.le_refl _) (.cells #[.bool false, .slice none 0 0, .int .i64 0, .int .i64 0] 52))
    have hv0 := hv.below ((Below.refl _ _).alloc (Nat.le_refl _) (.cells #[.bool false, .slice none 0 0, .int .i64 0, .int .i64 0] 52))
    clear y1 y2 y3 hd
    go_wp2_with (first
      | ((with_reducible show wpList _ _ _ (Oper.mk _ (Op.store 52 _ _) _ _ _ _ :: _) _ _); refine wpList_store_keep _ rfl 52 _ _ rfl w4.heap.size #[.bool neg, .slice A5 n5 c5, .int .i64 (big * 1000), .int .i64 (big * 1000)] #[.bool false, .slice none 0 0, .int .i64 0, .int .i64 0] 52 rfl rfl (pBlk_made w4 #[.bool false, .slice none 0 0, .int .i64 0, .int .i64 0] 52) exact_size rfl (by simp [Value.oneCell']) noU ?_; intro w5 hp2 hb2 hk2; obtain ⟨r0, r1, r2, r3⟩ := cells4 hp2; have hq := pBlk_keep hp1 hb2 (by omega); have hv2 := hk2 _ _ _ hv0)
      | ((with_reducible show wpList _ _ _ (Oper.mk _ (Op.store 52 _ _) _ _ _ _ :: _) _ _); refine wpList_store_keep _ rfl 52 _ _ rfl (w.heap.size + 1) #[.bool neg, .slice A5 n5 c5, .int .i64 (big * 1000), .int .i64 (big * 1000)] #[.bool false, .slice none 0 0, .int .i64 0, .int .i64 0] 52 rfl rfl hq exact_size rfl (by simp [Value.oneCell']) noU ?_; intro w6 hp3 hb3 hk3; obtain ⟨s0, s1, s2, s3⟩ := cells4 hp3; have hv3 := hk3 _ _ _ hv2))
    have hB3 : Below w.heap.size w w6 := ((hB.alloc hB.size _).trans (hb2.mono hB.size)).trans (hb3.mono (Nat.le_succ _))
    exact bodyPost_ret (v := .agg #[.bool neg, .slice A5 n5 c5, .int .i64 (big * 1000), .int .i64 (big * 1000)]) (by simp [results, Tryz.results91, go_sem, s0, s1, s2, s3]) rfl ⟨A5, n5, c5, rfl, hv3, hB3⟩
end Go.Proofs.YtehpneojiinmdaaGreatDoor
namespace Go.Proofs.YtehpneojiinmdaaGreatDoor
open Go.RowKit Go.Cal
theorem qassert (a b : Int) (xt : TypeId) (w : World) : (Instr.typeAssert (.iface 141 (.agg #[.int .i64 a, .int .i64 b])) xt 141 true).run Tryz.prog w = .ok (.tuple #[.agg #[.int .i64 a, .int .i64 b], .bool true]) w := by
  unfold Instr.typeAssert
  simp [run_underlying Tryz.underlying141, Sem.run_bind, Sem.run_pure]
theorem cell_ltX {w : World} {g : Nat} {cs : Array Value} {t : TypeId} (h : pBlk g cs t w) : g < w.heap.size := by
  unfold pBlk at h
  exact (Array.getElem?_eq_some_iff.1 h).1
set_option maxRecDepth 100000 in
theorem qcatch_idle (g : Nat) (w : World) :
    CallsD Tryz.prog 87 #[.pointer (some ⟨g, 0, none⟩), .pointer (some ⟨g + 1, 0, none⟩), .pointer (some ⟨g + 2, 0, none⟩)] .returning w fun e u' w' => e = .returned (.tuple #[]) ∧ u' = .returning ∧ w' = w := by
  refine callsD_of_wpS Tryz.func87 rfl fun c₀ cs hu => ?_
  apply wpS_seq
  apply wpS_region
  simp [wpOpsS, go_sem, recoverD, hu, Tryz.ntmps87, Exit.thenS]
  apply wpS_seq
  apply wpS_region
  simp [wpOpsS, go_sem, Exit.thenS]
  refine wpS_cond (t := false) (by simp [Act.eval, Array.replicate]) ?_
  simp only [Bool.false_eq_true, if_false]
  refine wpS_of_wp (wp_skip ?_)
  cases c₀
  simp_all [bodyPostS, results, Tryz.results87]
set_option maxRecDepth 100000 in
set_option maxHeartbeats 1000000 in
theorem qcatch_thrown (g : Nat) (a b : Int) (older : List PanicEntry) (w : World) {x y z : Value} (p0 : pBlk g #[x] 22 w) (p1 : pBlk (g + 1) #[y] 3 w) (p2 : pBlk (g + 2) #[z] 26 w) :
    CallsD Tryz.prog 87 #[.pointer (some ⟨g, 0, none⟩), .pointer (some ⟨g + 1, 0, none⟩), .pointer (some ⟨g + 2, 0, none⟩)] (.panicking ({ v := .iface 141 (.agg #[.int .i64 a, .int .i64 b]), recovered := false } :: older)) w fun e u' w' =>
      e = .returned (.tuple #[]) ∧ u' = .panicking ({ v := .iface 141 (.agg #[.int .i64 a, .int .i64 b]), recovered := true } :: older) ∧ pBlk g #[.int .u64 0] 22 w' ∧ pBlk (g + 1) #[.int .i64 a] 3 w' ∧ pBlk (g + 2) #[.int .i64 b] 26 w' ∧ Below g w w' := by
  have hta := qassert a b
  have c0 := p0.cell 0 _ rfl
  have c1 := p1.cell 0 _ rfl
  have c2 := p2.cell 0 _ rfl
  have f0 := p0.free 0
  have f1 := p1.free 0
  have f2 := p2.free 0
  have hg := cell_ltX p0
  have he := cell_ltX p1
  have he2 := cell_ltX p2
  refine callsD_of_wpS Tryz.func87 rfl fun c₀ cs hu => ?_
  apply wpS_seq
  apply wpS_region
  simp [wpOpsS, go_sem, recoverD, hu, Tryz.ntmps87, Exit.thenS]
  apply wpS_seq
  apply wpS_region
  simp [wpOpsS, go_sem, Exit.thenS]
  refine wpS_cond (t := true) (by simp [Act.eval, Array.replicate]) ?_
  simp only [if_true]
  refine wpS_of_wp ?_
  simp [Array.replicate]
  go_wp2
  go_region
  go_wp2
  simp [bodyPostS, results, Tryz.results87]
  have hB := (((Below.refl g w).setCell (p := ⟨g, 0, none⟩) (Nat.le_refl _) (.int .u64 0)).setCell (p := ⟨g + 1, 0, none⟩) (Nat.le_succ _) (.int .i64 a)).setCell (p := ⟨g + 2, 0, none⟩) (Nat.le_add_right _ _) (.int .i64 b)
  have k0 := ((p0.setX 0 (.int .u64 0)).othX (g' := g + 1) (by omega) 0 (.int .i64 a)).othX (g' := g + 2) (by omega) 0 (.int .i64 b)
  have k1 := ((p1.othX (g' := g) (by omega) 0 (.int .u64 0)).setX 0 (.int .i64 a)).othX (g' := g + 2) (by omega) 0 (.int .i64 b)
  have k2 := ((p2.othX (g' := g) (by omega) 0 (.int .u64 0)).othX (g' := g + 1) (by omega) 0 (.int .i64 a)).setX 0 (.int .i64 b)
  have hD := fun W : World => ((Below.refl W.heap.size W).alloc (Nat.le_refl _) (.cells #[.int .i64 a, .int .i64 b] 141)).drew
  refine ⟨pBlk_st _ _ _ _ _ k0 (hD _), pBlk_st _ _ _ _ _ k1 (hD _), pBlk_st _ _ _ _ _ k2 (hD _), hB.trans ((hD _).mono ?_)⟩
  simp [World.setCell]
  omega
end Go.Proofs.YtehpneojiinmdaaGreatDoor
namespace Go.Proofs.YtehpneojiinmdaaGreatDoor
open Go.RowKit Go.Cal
theorem parse_start (w : World) : LiveP w (((w.alloc (.cells #[.int .u64 0] 22)).alloc (.cells #[.int .i64 0] 3)).alloc (.cells #[.int .i64 0] 26)) [pBlk (w.heap.size + 1 + 1) #[.int .i64 0] 26, pBlk (w.heap.size + 1) #[.int .i64 0] 3, pBlk w.heap.size #[.int .u64 0] 22] := by
  have h1 := ((LiveP.start w).go ((Below.refl _ _).alloc (Nat.le_refl _) (.cells #[.int .u64 0] 22))).put (pBlk_st _ _ _) (pBlk_made w #[.int .u64 0] 22)
  have a2 := pBlk_made (w.alloc (.cells #[.int .u64 0] 22)) #[.int .i64 0] 3
  rw [show (w.alloc (.cells #[.int .u64 0] 22)).heap.size = w.heap.size + 1 by simp] at a2
  have h2 := (h1.go ((Below.refl _ _).alloc (Nat.le_refl _) (.cells #[.int .i64 0] 3))).put (pBlk_st _ _ _) a2
  have a3 := pBlk_made ((w.alloc (.cells #[.int .u64 0] 22)).alloc (.cells #[.int .i64 0] 3)) #[.int .i64 0] 26
  rw [show ((w.alloc (.cells #[.int .u64 0] 22)).alloc (.cells #[.int .i64 0] 3)).heap.size = w.heap.size + 1 + 1 by simp] at a3
  exact (h2.go ((Below.refl _ _).alloc (Nat.le_refl _) (.cells #[.int .i64 0] 26))).put (pBlk_st _ _ _) a3
section
variable {w W : World} {p a e : Int}
theorem set_p (h : LiveP w W [pBlk (w.heap.size + 1 + 1) #[.int .i64 e] 26, pBlk (w.heap.size + 1) #[.int .i64 a] 3, pBlk w.heap.size #[.int .u64 p] 22]) (u : Int) : LiveP w (W.setCell ⟨w.heap.size, 0, none⟩ (.int .u64 u)) [pBlk (w.heap.size + 1 + 1) #[.int .i64 e] 26, pBlk (w.heap.size + 1) #[.int .i64 a] 3, pBlk w.heap.size #[.int .u64 u] 22] := by
  have q0 := h.get (P := pBlk w.heap.size #[.int .u64 p] 22) (by repeat (first | exact List.mem_cons_self | apply List.mem_cons_of_mem))
  have q1 := h.get (P := pBlk (w.heap.size + 1) #[.int .i64 a] 3) (by repeat (first | exact List.mem_cons_self | apply List.mem_cons_of_mem))
  have q2 := h.get (P := pBlk (w.heap.size + 1 + 1) #[.int .i64 e] 26) (by repeat (first | exact List.mem_cons_self | apply List.mem_cons_of_mem))
  exact (((⟨h.below.setCell (p := ⟨w.heap.size, 0, none⟩) (Nat.le_refl _) _, fun P hP => by simp at hP⟩ : LiveP w _ []).put (pBlk_st _ _ _) (q0.setX 0 (.int .u64 u))).put (pBlk_st _ _ _) (q1.othX (g' := w.heap.size) (by omega) 0 (.int .u64 u))).put (pBlk_st _ _ _) (q2.othX (g' := w.heap.size) (by omega) 0 (.int .u64 u))
theorem set_a (h : LiveP w W [pBlk (w.heap.size + 1 + 1) #[.int .i64 e] 26, pBlk (w.heap.size + 1) #[.int .i64 a] 3, pBlk w.heap.size #[.int .u64 p] 22]) (u : Int) : LiveP w (W.setCell ⟨w.heap.size + 1, 0, none⟩ (.int .i64 u)) [pBlk (w.heap.size + 1 + 1) #[.int .i64 e] 26, pBlk (w.heap.size + 1) #[.int .i64 u] 3, pBlk w.heap.size #[.int .u64 p] 22] := by
  have q0 := h.get (P := pBlk w.heap.size #[.int .u64 p] 22) (by repeat (first | exact List.mem_cons_self | apply List.mem_cons_of_mem))
  have q1 := h.get (P := pBlk (w.heap.size + 1) #[.int .i64 a] 3) (by repeat (first | exact List.mem_cons_self | apply List.mem_cons_of_mem))
  have q2 := h.get (P := pBlk (w.heap.size + 1 + 1) #[.int .i64 e] 26) (by repeat (first | exact List.mem_cons_self | apply List.mem_cons_of_mem))
  exact (((⟨h.below.setCell (p := ⟨w.heap.size + 1, 0, none⟩) (Nat.le_succ _) _, fun P hP => by simp at hP⟩ : LiveP w _ []).put (pBlk_st _ _ _) (q0.othX (g' := w.heap.size + 1) (by omega) 0 (.int .i64 u))).put (pBlk_st _ _ _) (q1.setX 0 (.int .i64 u))).put (pBlk_st _ _ _) (q2.othX (g' := w.heap.size + 1) (by omega) 0 (.int .i64 u))
theorem set_e (h : LiveP w W [pBlk (w.heap.size + 1 + 1) #[.int .i64 e] 26, pBlk (w.heap.size + 1) #[.int .i64 a] 3, pBlk w.heap.size #[.int .u64 p] 22]) (u : Int) : LiveP w (W.setCell ⟨w.heap.size + 1 + 1, 0, none⟩ (.int .i64 u)) [pBlk (w.heap.size + 1 + 1) #[.int .i64 u] 26, pBlk (w.heap.size + 1) #[.int .i64 a] 3, pBlk w.heap.size #[.int .u64 p] 22] := by
  have q0 := h.get (P := pBlk w.heap.size #[.int .u64 p] 22) (by repeat (first | exact List.mem_cons_self | apply List.mem_cons_of_mem))
  have q1 := h.get (P := pBlk (w.heap.size + 1) #[.int .i64 a] 3) (by repeat (first | exact List.mem_cons_self | apply List.mem_cons_of_mem))
  have q2 := h.get (P := pBlk (w.heap.size + 1 + 1) #[.int .i64 e] 26) (by repeat (first | exact List.mem_cons_self | apply List.mem_cons_of_mem))
  exact (((⟨h.below.setCell (p := ⟨w.heap.size + 1 + 1, 0, none⟩) (Nat.le_trans (Nat.le_succ _) (Nat.le_succ _)) _, fun P hP => by simp at hP⟩ : LiveP w _ []).put (pBlk_st _ _ _) (q0.othX (g' := w.heap.size + 1 + 1) (by omega) 0 (.int .i64 u))).put (pBlk_st _ _ _) (q1.othX (g' := w.heap.size + 1 + 1) (by omega) 0 (.int .i64 u))).put (pBlk_st _ _ _) (q2.setX 0 (.int .i64 u))
theorem get_c (h : LiveP w W [pBlk (w.heap.size + 1 + 1) #[.int .i64 e] 26, pBlk (w.heap.size + 1) #[.int .i64 a] 3, pBlk w.heap.size #[.int .u64 p] 22]) : W.cell? ⟨w.heap.size, 0, none⟩ = some (.int .u64 p) ∧ W.cell? ⟨w.heap.size + 1, 0, none⟩ = some (.int .i64 a) ∧ W.cell? ⟨w.heap.size + 1 + 1, 0, none⟩ = some (.int .i64 e) ∧
    W.frozen? ⟨w.heap.size, 0, none⟩ = false ∧ W.frozen? ⟨w.heap.size + 1, 0, none⟩ = false ∧ W.frozen? ⟨w.heap.size + 1 + 1, 0, none⟩ = false ∧ w.heap.size + 1 + 1 < W.heap.size := by
  have q0 := h.get (P := pBlk w.heap.size #[.int .u64 p] 22) (by repeat (first | exact List.mem_cons_self | apply List.mem_cons_of_mem))
  have q1 := h.get (P := pBlk (w.heap.size + 1) #[.int .i64 a] 3) (by repeat (first | exact List.mem_cons_self | apply List.mem_cons_of_mem))
  have q2 := h.get (P := pBlk (w.heap.size + 1 + 1) #[.int .i64 e] 26) (by repeat (first | exact List.mem_cons_self | apply List.mem_cons_of_mem))
  exact ⟨q0.cell 0 _ rfl, q1.cell 0 _ rfl, q2.cell 0 _ rfl, q0.free 0, q1.free 0, q2.free 0, cell_ltX q2⟩
end
set_option maxRecDepth 100000 in
set_option maxHeartbeats 2000000 in
theorem parse_form (id mode : Int) (s : ByteArray) (hid : id < 1 ∨ 15 ≤ id) (w : World) :
    Calls Tryz.prog 43 #[.int .i64 id, .int .i64 mode, .string s] w fun e w' => e = .returned (.tuple #[.int .u64 0, .int .i64 0, .int .i64 3]) ∧ Below w.heap.size w w' := by
  have hmf : ∀ (fn : Fn) (first cap : Array Value) (w : World), (Instr.makeFunc fn first cap).run Tryz.prog w = .ok (.func fn first cap) w := fun _ _ _ _ => rfl
  have hfn := Lib.hid (fun w => fo_none id w hid)
  have hL := parse_start w
  clear hid
  go_enter_defers Tryz.func43, Tryz.ntmps43
  go_wp2_with fail
  refine (hfn.out _).mono ?_
  rintro e u1 ⟨rfl, hb1⟩
  replace hL := (hL.go hb1).go ((Below.refl _ _).alloc (Nat.le_refl _) (.cells #[.int .i64 0, .int .i64 0, .int .i64 0, .int .i64 0, .int .u64 0, .int .u64 0, .int .u64 0] 25))
  obtain ⟨c0, c1, c2, f0, f1, f2, hlt⟩ := get_c hL
  go_wp2_with fail
  refine (qmust_no 0 3 (by decide) _).mono ?_
  rintro e u2 ⟨rfl, rfl⟩
  replace hL := set_e hL 3
  clear c0 c1 c2 f0 f1 f2
  have p0 := hL.get (P := pBlk w.heap.size #[.int .u64 0] 22) (by repeat (first | exact List.mem_cons_self | apply List.mem_cons_of_mem))
  have p1 := hL.get (P := pBlk (w.heap.size + 1) #[.int .i64 0] 3) (by repeat (first | exact List.mem_cons_self | apply List.mem_cons_of_mem))
  have p2 := hL.get (P := pBlk (w.heap.size + 1 + 1) #[.int .i64 3] 26) (by repeat (first | exact List.mem_cons_self | apply List.mem_cons_of_mem))
  have hbl := hL.below
  clear hL
  go_wp2
  refine leaves_cons (f := 87) (args := #[.pointer (some ⟨w.heap.size, 0, none⟩), .pointer (some ⟨w.heap.size + 1, 0, none⟩), .pointer (some ⟨w.heap.size + 1 + 1, 0, none⟩)]) (by simp) (by simp [go_sem]) ?_
  refine (qcatch_thrown w.heap.size 0 3 [] _ p0 p1 p2).mono ?_
  rintro e1 u8 w8 ⟨rfl, rfl, pd0, pd1, pd2, hb8⟩
  have y0 := pd0.cell 0 _ rfl
  have y1 := pd1.cell 0 _ rfl
  have y2 := pd2.cell 0 _ rfl
  have hbf := hbl.trans hb8
  clear p0 p1 p2 pd0 pd1 pd2
  simp [Leaves, settle, results, Tryz.results43, go_sem, y0, y1, y2]
  exact hbf
set_option maxRecDepth 100000 in
set_option maxHeartbeats 2000000 in
theorem parse_mode (id mode : Int) (s : ByteArray) (h1 : 1 ≤ id) (h2 : id < 15) (m1 : (mode != 1) = true) (m2 : (mode != 2) = true) (w : World) (hW : VaW w) :
    Calls Tryz.prog 43 #[.int .i64 id, .int .i64 mode, .string s] w fun e w' => e = .returned (.tuple #[.int .u64 0, .int .i64 0, .int .i64 1]) ∧ Below w.heap.size w w' := by
  have hmf : ∀ (fn : Fn) (first cap : Array Value) (w : World), (Instr.makeFunc fn first cap).run Tryz.prog w = .ok (.func fn first cap) w := fun _ _ _ _ => rfl
  have hfo := Lib.hid (fun (W : World) (hW : VaW W) => fo_of id W hW.frm h1 h2)
  have hL := parse_start w
  go_enter_defers Tryz.func43, Tryz.ntmps43
  go_wp2_with fail
  refine (hfo.out _ (hW.below hL.below)).mono ?_
  rintro e u1 ⟨rfl, hb1⟩
  have hF := pBlk_made u1 #[.int .i64 (fK id), .int .i64 (fW id), .int .i64 (fM id), .int .i64 (fB id), .int .u64 (fT id), .int .u64 (fI id), .int .u64 (fN id)] 25
  replace hL := (hL.go hb1).go ((Below.refl _ _).alloc (Nat.le_refl _) (.cells #[.int .i64 (fK id), .int .i64 (fW id), .int .i64 (fM id), .int .i64 (fB id), .int .u64 (fT id), .int .u64 (fI id), .int .u64 (fN id)] 25))
  obtain ⟨c0, c1, c2, f0, f1, f2, hlt⟩ := get_c hL
  go_wp2_with fail
  refine (qmust_yes 0 _).mono ?_
  rintro e u2 ⟨rfl, rfl⟩
  have hgF : w.heap.size + 1 + 1 < u1.heap.size := by
    have := hb1.size
    simp at this
    omega
  replace hL := set_e hL 0
  replace hF := hF.othX (g' := w.heap.size + 1 + 1) (by omega) 0 (.int .i64 0)
  clear c0 c1 c2 f0 f1 f2 hlt hb1
  obtain ⟨W1, hW1⟩ : ∃ W1, ((u1.alloc (.cells #[.int .i64 (fK id), .int .i64 (fW id), .int .i64 (fM id), .int .i64 (fB id), .int .u64 (fT id), .int .u64 (fI id), .int .u64 (fN id)] 25)).setCell ⟨w.heap.size + 1 + 1, 0, none⟩ (.int .i64 0)) = W1 := ⟨_, rfl⟩
  rw [hW1] at hL hF ⊢
  clear hW1
  obtain ⟨gF, hgE⟩ : ∃ g, u1.heap.size = g := ⟨_, rfl⟩
  rw [hgE] at hF hgF ⊢
  clear hgE
  obtain ⟨c0, c1, c2, f0, f1, f2, hlt⟩ := get_c hL
  go_wp2_with fail
  refine (qmust_no 0 1 (by decide) _).mono ?_
  rintro e u3 ⟨rfl, rfl⟩
  clear c0 c1 c2 f0 f1 f2
  have p0 := hL.get (P := pBlk w.heap.size #[.int .u64 0] 22) (by repeat (first | exact List.mem_cons_self | apply List.mem_cons_of_mem))
  have p1 := hL.get (P := pBlk (w.heap.size + 1) #[.int .i64 0] 3) (by repeat (first | exact List.mem_cons_self | apply List.mem_cons_of_mem))
  have p2 := hL.get (P := pBlk (w.heap.size + 1 + 1) #[.int .i64 0] 26) (by repeat (first | exact List.mem_cons_self | apply List.mem_cons_of_mem))
  have hbl := hL.below
  clear hL
  go_wp2
  refine leaves_cons (f := 87) (args := #[.pointer (some ⟨w.heap.size, 0, none⟩), .pointer (some ⟨w.heap.size + 1, 0, none⟩), .pointer (some ⟨w.heap.size + 1 + 1, 0, none⟩)]) (by simp) (by simp [go_sem]) ?_
  refine (qcatch_thrown w.heap.size 0 1 [] _ p0 p1 p2).mono ?_
  rintro e1 u8 w8 ⟨rfl, rfl, pd0, pd1, pd2, hb8⟩
  have y0 := pd0.cell 0 _ rfl
  have y1 := pd1.cell 0 _ rfl
  have y2 := pd2.cell 0 _ rfl
  have hbf := hbl.trans hb8
  clear p0 p1 p2 pd0 pd1 pd2
  simp [Leaves, settle, results, Tryz.results43, go_sem, y0, y1, y2]
  exact hbf
theorem mode_two {mode : Int} (h : ¬ (mode ≠ 1 ∧ mode ≠ 2)) : (mode != 1) = false ∨ ((mode != 1) = true ∧ (mode != 2) = false) := by
  by_cases h1 : mode = 1
  · left; simp [h1]
  · right
    refine ⟨by simp [h1], ?_⟩
    have : mode = 2 := Classical.byContradiction fun h2 => h ⟨h1, h2⟩
    simp [this]
theorem rd_bytes1 (w : World) (l : List UInt8) (n : Nat) (fr : Nat × Nat) : RdB (w.alloc (.cells (bytesRow (strL l) n) 5 fr)).drew (w.alloc (.cells (bytesRow (strL l) n) 5 fr)).drew.heap.size (some ⟨w.heap.size, 0, none⟩) l := by
  have h := rd_bytes w l n fr
  have h2 : (w.alloc (.cells (bytesRow (strL l) n) 5 fr)).drew.heap.size = w.heap.size + 1 := by simp
  rw [h2]
  exact h
end Go.Proofs.YtehpneojiinmdaaGreatDoor
namespace Go.Proofs.YtehpneojiinmdaaGreatDoor
open Go.RowKit Go.Cal
set_option maxRecDepth 100000 in
set_option maxHeartbeats 2000000 in
theorem parse_bad (id mode : Int) (l : List UInt8) (hl : l.length ≤ 1099511627776) (h1 : 1 ≤ id) (h2 : id < 15) (hm : ¬ (mode ≠ 1 ∧ mode ≠ 2)) (ht : (textS l).1 = false) (w : World) (hW : VaW w) :
    Calls Tryz.prog 43 #[.int .i64 id, .int .i64 mode, .string (strL l)] w fun e w' => e = .returned (.tuple #[.int .u64 0, .int .i64 ((textS l).2 : Nat), .int .i64 2]) ∧ Below w.heap.size w w' := by
  have hcv := fun w => run_bytes_of_string (P := Tryz.prog) w 9 61 5 (strL l) sunder_str sunder_bytes sunder_byte
  have hsz := strL_size l
  simp only [hsz] at hcv
  obtain ⟨at', hat⟩ : ∃ x, (textS l).2 = x := ⟨_, rfl⟩
  rw [hat]
  rcases mode_two hm with m1 | ⟨m1, m2⟩
  all_goals
    clear hm
    skip
    have hmf : ∀ (fn : Fn) (first cap : Array Value) (w : World), (Instr.makeFunc fn first cap).run Tryz.prog w = .ok (.func fn first cap) w := fun _ _ _ _ => rfl
    have hfo := Lib.hid (fun (W : World) (hW : VaW W) => fo_of id W hW.frm h1 h2)
    have hL := parse_start w
    go_enter_defers Tryz.func43, Tryz.ntmps43
    go_wp2_with fail
    refine (hfo.out _ (hW.below hL.below)).mono ?_
    rintro e u1 ⟨rfl, hb1⟩
    have hF := pBlk_made u1 #[.int .i64 (fK id), .int .i64 (fW id), .int .i64 (fM id), .int .i64 (fB id), .int .u64 (fT id), .int .u64 (fI id), .int .u64 (fN id)] 25
    replace hL := (hL.go hb1).go ((Below.refl _ _).alloc (Nat.le_refl _) (.cells #[.int .i64 (fK id), .int .i64 (fW id), .int .i64 (fM id), .int .i64 (fB id), .int .u64 (fT id), .int .u64 (fI id), .int .u64 (fN id)] 25))
    obtain ⟨c0, c1, c2, f0, f1, f2, hlt⟩ := get_c hL
    go_wp2_with fail
    refine (qmust_yes 0 _).mono ?_
    rintro e u2 ⟨rfl, rfl⟩
    have hgF : w.heap.size + 1 + 1 < u1.heap.size := by
      have := hb1.size
      simp at this
      omega
    replace hL := set_e hL 0
    replace hF := hF.othX (g' := w.heap.size + 1 + 1) (by omega) 0 (.int .i64 0)
    clear c0 c1 c2 f0 f1 f2 hlt hb1
    obtain ⟨W1, hW1⟩ : ∃ W1, ((u1.alloc (.cells #[.int .i64 (fK id), .int .i64 (fW id), .int .i64 (fM id), .int .i64 (fB id), .int .u64 (fT id), .int .u64 (fI id), .int .u64 (fN id)] 25)).setCell ⟨w.heap.size + 1 + 1, 0, none⟩ (.int .i64 0)) = W1 := ⟨_, rfl⟩
    rw [hW1] at hL hF ⊢
    clear hW1
    obtain ⟨gF, hgE⟩ : ∃ g, u1.heap.size = g := ⟨_, rfl⟩
    rw [hgE] at hF hgF ⊢
    clear hgE
    obtain ⟨c0, c1, c2, f0, f1, f2, hlt⟩ := get_c hL
    go_wp2_with fail
    refine (scan_any l _ _ (rd_bytes1 W1 l _ _) hl).mono ?_
    rintro e w2 ⟨hcase, hb⟩
    rcases hcase with ⟨h0, _⟩ | ⟨_, rfl⟩
    · rw [ht] at h0; cases h0
    rw [hat]
    unfold itemNo
    replace hL := hL.go (((Below.refl _ _).alloc (Nat.le_refl _) _).drew.trans (hb.mono (by simp)))
    replace hL := hL.go ((Below.refl _ _).alloc (Nat.le_refl _) (.cells #[.int .i64 0, .bool false, .slice none 0 0, .int .i64 0, .int .i64 0, .bool false] 145))
    clear c0 c1 c2 f0 f1 f2 hlt hcv hsz hat
    obtain ⟨c0, c1, c2, f0, f1, f2, hlt⟩ := get_c hL
    go_wp2_with fail
    refine (qmust_no at' 2 (by decide) _).mono ?_
    rintro e u4 ⟨rfl, rfl⟩
    replace hL := set_e (set_a hL at') 2
    clear c0 c1 c2 f0 f1 f2 hlt
    have p0 := hL.get (P := pBlk w.heap.size #[.int .u64 0] 22) (by repeat (first | exact List.mem_cons_self | apply List.mem_cons_of_mem))
    have p1 := hL.get (P := pBlk (w.heap.size + 1) #[.int .i64 at'] 3) (by repeat (first | exact List.mem_cons_self | apply List.mem_cons_of_mem))
    have p2 := hL.get (P := pBlk (w.heap.size + 1 + 1) #[.int .i64 2] 26) (by repeat (first | exact List.mem_cons_self | apply List.mem_cons_of_mem))
    have hbl := hL.below
    clear hL
    go_wp2
    refine leaves_cons (f := 87) (args := #[.pointer (some ⟨w.heap.size, 0, none⟩), .pointer (some ⟨w.heap.size + 1, 0, none⟩), .pointer (some ⟨w.heap.size + 1 + 1, 0, none⟩)]) (by simp) (by simp [go_sem]) ?_
    refine (qcatch_thrown w.heap.size at' 2 [] _ p0 p1 p2).mono ?_
    rintro e1 u8 w8 ⟨rfl, rfl, pd0, pd1, pd2, hb8⟩
    have y0 := pd0.cell 0 _ rfl
    have y1 := pd1.cell 0 _ rfl
    have y2 := pd2.cell 0 _ rfl
    have hbf := hbl.trans hb8
    clear p0 p1 p2 pd0 pd1 pd2
    simp [Leaves, settle, results, Tryz.results43, go_sem, y0, y1, y2]
    exact hbf
end Go.Proofs.YtehpneojiinmdaaGreatDoor
