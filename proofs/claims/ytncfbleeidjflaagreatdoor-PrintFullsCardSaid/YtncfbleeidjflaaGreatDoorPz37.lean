/- Print, PrintFull: walked. Conditions: the variables that values and words read. -/
/- Rows over print: the map of words out of the row's condition; a start that meets it. Conditions: none. -/
/- The document's values: the greatest magnitudes, patterns, boundaries; walked. Conditions: none. -/
/- The document's values: boundaries; walked. Conditions: none. -/
/- The document's answer for chapter 2: powers of five, a number as a numerator and a denominator, the order. Conditions: powers within some thousands. -/
import Derived.Test.YtncfbleeidjflaaGreatDoorPz36
import Derived.Test.YtncfbleeidjflaaGreatDoorPz20
import Derived.Test.YtncfbleeidjflaaGreatDoorPz25
import Derived.Test.YtncfbleeidjflaaGreatDoorPz09
import Derived.Test.YtncfbleeidjflaaGreatDoorPz32
import Derived.Test.YtncfbleeidjflaaGreatDoorPz28
import Derived.Test.YtncfbleeidjflaaGreatDoorPz01
import Derived.Deep.RegionHeld3
import Derived.Test.YtncfbleeidjflaaGreatDoorPz19
namespace Go.Proofs.YtncfbleeidjflaaGreatDoor
open Go.RowKit Go.Cal
/-- A pattern's magnitude and what its number is, as Short and Full read them. -/
def priK (id p : Int) : Nat := (partK id p).toNat
/-- The shortest digits of a pattern, and all. -/
def shoD (id p : Int) : Nat × Int := shortV (limV id (partN id p) (priK id p)) (decM id p) (decE id p) 2000
def fulD (id p : Int) : Nat × Int := fullV (decM id p) (decE id p) 2000
/-- The text of a pattern. -/
def priT (id p : Int) : List UInt8 := if fitsV id p ≠ 0 then [] else if classV id p = 2 then lyT (partN id p) (shoD id p).1 (shoD id p).2 else nfT id p
/-- The whole text of a pattern. -/
def fulT (id p : Int) : List UInt8 := if fitsV id p ≠ 0 then [] else if classV id p = 2 then lyT (partN id p) (fulD id p).1 (fulD id p).2 else nfT id p
theorem fits_two {id p : Int} (hf : fitsV id p = 0) : 1 ≤ id ∧ id < 15 ∧ p < 2 ^ (fW id).toNat := by
  unfold fitsV at hf
  split at hf
  · cases hf
  · rename_i h
    split at hf
    · exact ⟨by omega, by omega, by omega⟩
    · cases hf
theorem fin_of {id p : Int} (h1 : 1 ≤ id) (h2 : id < 15) (hp0 : 0 ≤ p) (hp1 : p < 2 ^ (fW id).toNat) (hc : classV id p = 2) : Fin id p (partN id p) (priK id p) (decM id p) (decE id p) := by
  have hk : partK id p = ((priK id p : Nat) : Int) := by
    have := partK_nonneg (id := id) hp0
    unfold priK
    omega
  refine ⟨h1, h2, hp0, hp1, hc, rfl, hk, ?_⟩
  unfold decM decE
  rw [if_pos hc, if_pos hc]
  rfl
theorem class_all (id p : Int) : classV id p = 1 ∨ classV id p = 2 ∨ classV id p = 3 ∨ classV id p = 4 := by
  unfold classV
  repeat' split
  all_goals simp
set_option maxRecDepth 100000 in
set_option maxHeartbeats 4000000 in
theorem print_any (id p : Int) (hp0 : 0 ≤ p) (hp1 : p < 18446744073709551616) (w : World) (hW : PrW w) :
    Calls Tryz.prog 9 #[.int .i64 id, .int .u64 p] w fun e w' => e = .returned (.tuple #[.string (strL (priT id p)), .int .i64 (fitsV id p)]) ∧ Below w.heap.size w w' := by
  by_cases hf : fitsV id p ≠ 0
  · have ht := Lib.hid (told_no 24 id p hp0 hp1 hf w hW)
    have hT : priT id p = [] := by unfold priT; rw [if_pos hf]
    rw [hT]
    clear hf hT hW hp0 hp1
    generalize fitsV id p = E at ht ⊢
    go_enter Tryz.func9, Tryz.ntmps9
    go_wp2_with fail
    refine ht.out.mono ?_
    rintro e w1 ⟨rfl, hb⟩
    go_wp2_with fail
    go_ret2
    exact ⟨(by first | rfl | trivial), hb⟩
  · have hf0 : fitsV id p = 0 := by simpa using hf
    obtain ⟨h1, h2, h3⟩ := fits_two hf0
    rw [hf0]
    by_cases hc : classV id p = 2
    · have hfin := fin_of h1 h2 hp0 h3 hc
      have hT : priT id p = lyT (partN id p) (shoD id p).1 (shoD id p).2 := by unfold priT; rw [if_neg hf, if_pos hc]
      rw [hT]
      have ht := Lib.hid (told_fin_short hfin w hW (shoD id p) rfl (short_right hfin))
      clear hf hf0 hT hW hp0 hp1 h1 h2 h3 hc hfin
      generalize lyT (partN id p) (shoD id p).1 (shoD id p).2 = S at ht ⊢
      go_enter Tryz.func9, Tryz.ntmps9
      go_wp2_with fail
      refine ht.out.mono ?_
      rintro e w1 ⟨rfl, hb⟩
      go_wp2_with fail
      go_ret2
      exact ⟨(by first | rfl | trivial), hb⟩
    · have hT : priT id p = nfT id p := by unfold priT; rw [if_neg hf, if_neg hc]
      rw [hT]
      have ht := Lib.hid (told_wrd 24 h1 h2 hp0 h3 (by rcases class_all id p with h | h | h | h <;> simp_all) w hW)
      clear hf hf0 hT hW hp0 hp1 h1 h2 h3 hc
      generalize nfT id p = S at ht ⊢
      go_enter Tryz.func9, Tryz.ntmps9
      go_wp2_with fail
      refine ht.out.mono ?_
      rintro e w1 ⟨rfl, hb⟩
      go_wp2_with fail
      go_ret2
      exact ⟨(by first | rfl | trivial), hb⟩
set_option maxRecDepth 100000 in
set_option maxHeartbeats 4000000 in
theorem pfull_any (id p : Int) (hp0 : 0 ≤ p) (hp1 : p < 18446744073709551616) (w : World) (hW : PrW w) :
    Calls Tryz.prog 11 #[.int .i64 id, .int .u64 p] w fun e w' => e = .returned (.tuple #[.string (strL (fulT id p)), .int .i64 (fitsV id p)]) ∧ Below w.heap.size w w' := by
  by_cases hf : fitsV id p ≠ 0
  · have ht := Lib.hid (told_no 29 id p hp0 hp1 hf w hW)
    have hT : fulT id p = [] := by unfold fulT; rw [if_pos hf]
    rw [hT]
    clear hf hT hW hp0 hp1
    generalize fitsV id p = E at ht ⊢
    go_enter Tryz.func11, Tryz.ntmps11
    go_wp2_with fail
    refine ht.out.mono ?_
    rintro e w1 ⟨rfl, hb⟩
    go_wp2_with fail
    go_ret2
    exact ⟨(by first | rfl | trivial), hb⟩
  · have hf0 : fitsV id p = 0 := by simpa using hf
    obtain ⟨h1, h2, h3⟩ := fits_two hf0
    rw [hf0]
    by_cases hc : classV id p = 2
    · have hfin := fin_of h1 h2 hp0 h3 hc
      have hT : fulT id p = lyT (partN id p) (fulD id p).1 (fulD id p).2 := by unfold fulT; rw [if_neg hf, if_pos hc]
      rw [hT]
      have ht := Lib.hid (told_fin_full hfin w hW (fulD id p) rfl (full_right hfin))
      clear hf hf0 hT hW hp0 hp1 h1 h2 h3 hc hfin
      generalize lyT (partN id p) (fulD id p).1 (fulD id p).2 = S at ht ⊢
      go_enter Tryz.func11, Tryz.ntmps11
      go_wp2_with fail
      refine ht.out.mono ?_
      rintro e w1 ⟨rfl, hb⟩
      go_wp2_with fail
      go_ret2
      exact ⟨(by first | rfl | trivial), hb⟩
    · have hT : fulT id p = nfT id p := by unfold fulT; rw [if_neg hf, if_neg hc]
      rw [hT]
      have ht := Lib.hid (told_wrd 29 h1 h2 hp0 h3 (by rcases class_all id p with h | h | h | h <;> simp_all) w hW)
      clear hf hf0 hT hW hp0 hp1 h1 h2 h3 hc
      generalize nfT id p = S at ht ⊢
      go_enter Tryz.func11, Tryz.ntmps11
      go_wp2_with fail
      refine ht.out.mono ?_
      rintro e w1 ⟨rfl, hb⟩
      go_wp2_with fail
      go_ret2
      exact ⟨(by first | rfl | trivial), hb⟩
end Go.Proofs.YtncfbleeidjflaaGreatDoor
namespace Go.Proofs.YtncfbleeidjflaaGreatDoor
open Go.ChangeShapes Go.WideShapes Go.ChangeAt Go.RowKit Go.Cal Go.Maps
theorem zero_strP (w : World) : (zeroValue 9).run Tryz.prog w = .ok (.string ⟨#[]⟩) w := by kernel_rfl
theorem cells_strP {v : Value} (h : v.formed Tryz.prog 9 = true) : v.cells.toList = [v] := by
  cases v with
  | agg cs => simp [Value.formed, Tryz.underlying9] at h
  | _ => rfl
set_option maxRecDepth 100000 in
theorem wrd_one {W wr : World} {b n : Nat} {es : Array MapEntry} {clock : Nat} (hb : wr.heap[b]? = some (.map es clock)) (F : Go.WideElems.Fit Tryz.prog 3 (Go.WideElems.elemAt (fun _ => ()) Tryz.prog W 0 (fun _ => true) false n 9) es clock) (k : Int) (l : List UInt8) (hwf : (Lit.int .i64 k).wf = true)
    (hD : ∀ zd : DataW Unit, (DataW.map ((es.toList.map (Go.WideElems.rg Tryz.prog 3 (Go.WideElems.elemAt (fun _ => ()) Tryz.prog W 0 (fun _ => true) false n 9))).foldr DataW.insert [])).atKey (.int .i64 k) zd = .lit (.string l)) :
    (Instr.lookup 104 (.map (some b)) (.int .i64 k) false).run Tryz.prog wr = .ok (.string (strL l)) wr := by
  have hkey : keyOf Tryz.prog 3 (.int .i64 k) = some (.int .i64 k) := keyOf_int_mk Tryz.underlying3 hwf
  rcases fit_look false law_int Tryz.underlying104 (zero_strP wr) hb F hkey with ⟨_, _, hz⟩ | ⟨e0, y, _, _, hrun, hR, hy, _⟩
  · have := (hz .nil).symm.trans (hD .nil)
    cases this
  · have h1 : y.1 = .lit (.string l) := (hy .nil).symm.trans (hD .nil)
    unfold Go.WideElems.elemAt at hR
    split at hR
    · rename_i hf
      rw [cells_strP hf] at hR
      obtain ⟨s, hs, hx, _⟩ := DataW.trod_string Tryz.underlying9 hR
      rw [hx] at h1
      have hl : s.data.toList = l := by
        have h2 : (DataW.lit (.string s.data.toList) : DataW Unit) = DataW.lit (.string l) := h1
        injection h2 with h2
        injection h2
      have hv := (List.cons.inj hs).1
      rw [hrun]
      subst hl
      simp [hv, strL]
    · cases hR
theorem wrdW_of_laid {W : World} {laid : List (String × DataW Unit)} (h : laidMet Tryz.prog laid W) (hm : ("caliper/print.words", Rows.laid_caliper_print_words) ∈ laid) : WrdW W := by
  obtain ⟨ps, hl, _⟩ := h
  obtain ⟨g, t, cs, fuel, p, hg, ht, hv, hd⟩ := laidVars_mem hl hm
  obtain rfl := Option.some.inj ((show Tryz.prog.globalNamed "caliper/print.words" = some 0 by kernel_rfl).symm.trans hg)
  obtain rfl := Option.some.inj ((show (Tryz.prog.globals[0]?).map (·.type) = some 104 by kernel_rfl).symm.trans ht)
  have hd' : DataW.trod (fun _ => ()) Tryz.prog W 0 (fun _ => true) false fuel 104 cs.toList = some (.map [(.int .i64 1, .lit (.string [48])), (.int .i64 3, .lit (.string [105, 110, 102])), (.int .i64 4, .lit (.string [110, 97, 110]))], p) := hd
  rcases Go.WideElems.open_map Tryz.underlying104 hd' with ⟨_, hx⟩ | ⟨b, es, clock, n, _, hcs, hb, _, F, hx⟩
  · cases hx
  · simp only [Prod.mk.injEq] at hx
    obtain ⟨hD, _⟩ := hx
    have hc : W.cell? ⟨0, 0, none⟩ = some (.map (some b)) := by
      have := World.var?_cell hg hv 0
      rw [Array.eq_one_of_toList hcs] at this
      simpa using this
    have hbl : b < W.heap.size := (Array.getElem?_eq_some_iff.1 hb).1
    refine ⟨World.block_lt_of_cell? W ⟨0, 0, none⟩ hc, _, hc, fun wr hr => ?_⟩
    have hbr : wr.heap[b]? = some (.map es clock) := by rw [hr.block b hbl]; exact hb
    intro c hk
    rcases hk with rfl | rfl | rfl
    · exact wrd_one hbr F 1 [48] (by decide) (fun zd => by rw [← hD]; rfl)
    · exact wrd_one hbr F 3 [105, 110, 102] (by decide) (fun zd => by rw [← hD]; rfl)
    · exact wrd_one hbr F 4 [110, 97, 110] (by decide) (fun zd => by rw [← hD]; rfl)
end Go.Proofs.YtncfbleeidjflaaGreatDoor
namespace Go.Proofs.YtncfbleeidjflaaGreatDoor
open Go.RowKit Go.Cal
theorem cells7R {w : World} {g : Nat} {t : TypeId} {a b c d e f h : Value} (hp : pBlk g #[a, b, c, d, e, f, h] t w) : w.cell? ⟨g, 0, none⟩ = some a ∧ w.cell? ⟨g, 1, none⟩ = some b ∧ w.cell? ⟨g, 2, none⟩ = some c ∧ w.cell? ⟨g, 3, none⟩ = some d ∧ w.cell? ⟨g, 4, none⟩ = some e ∧ w.cell? ⟨g, 5, none⟩ = some f ∧ w.cell? ⟨g, 6, none⟩ = some h :=
  ⟨hp.cell 0 _ rfl, hp.cell 1 _ rfl, hp.cell 2 _ rfl, hp.cell 3 _ rfl, hp.cell 4 _ rfl, hp.cell 5 _ rfl, hp.cell 6 _ rfl⟩
theorem kind_two (id : Int) : ((fK id == 4) = true ∧ (fK id == 3) = false) ∨ ((fK id == 4) = false ∧ (fK id == 3) = true) ∨ ((fK id == 4) = false ∧ (fK id == 3) = false) := by
  by_cases h4 : fK id = 4
  · left; simp [h4]
  · by_cases h3 : fK id = 3
    · right; left; simp [h3]
    · right; right; simp [h3, h4]
set_option maxRecDepth 100000 in
set_option maxHeartbeats 2000000 in
theorem rmost7_yes (id : Int) (neg : Bool) (he : mostE id neg = 0) (w : World) : Calls Tryz.prog 168 #[.int .i64 id, .bool neg] w fun e w' => e = .returned (.tuple #[.int .u64 (mostV id neg), .int .i64 0]) ∧ Below w.heap.size w w' := by
  obtain ⟨h1, h2, h3⟩ := mostE_zero he
  have hof := Lib.hid (rof_yes id w h1 h2)
  have hft := ft_bounds id
  have hfp : fT id < 18446744073709551615 := by rcases id_cases h1 h2 with rfl | rfl | rfl | rfl | rfl | rfl | rfl | rfl | rfl | rfl | rfl | rfl | rfl | rfl <;> decide
  have hk := kind_two id
  cases neg
  · have hm : mostV id false = fT id := by simp [mostV]
    rw [hm]
    rcases hk with ⟨k4, k3⟩ | ⟨k4, k3⟩ | ⟨k4, k3⟩
    all_goals
      clear hm he h3
      go_enter Tryz.func168, Tryz.ntmps168
      go_wp2_with fail
      refine hof.out.mono ?_
      rintro e w1 ⟨rfl, hb1⟩
      have hB1 := hb1.trans (((Below.refl w1.heap.size w1).alloc (Nat.le_refl _) (.cells #[.int .i64 (fK id), .int .i64 (fW id), .int .i64 (fM id), .int .i64 (fB id), .int .u64 (fT id), .int .u64 (fI id), .int .u64 (fN id)] 73)).mono hb1.size)
      go_wp2
      go_ret2
      exact ⟨rfl, hB1⟩
  · rcases hk with ⟨k4, k3⟩ | ⟨k4, k3⟩ | ⟨k4, k3⟩
    · exact absurd (by simpa using k4) (h3 rfl)
    · have hm : mostV id true = fT id + 1 := by unfold mostV; rw [if_pos ⟨rfl, by simpa using k3⟩]
      rw [hm]
      clear hm he h3
      go_enter Tryz.func168, Tryz.ntmps168
      go_wp2_with fail
      refine hof.out.mono ?_
      rintro e w1 ⟨rfl, hb1⟩
      have hB1 := hb1.trans (((Below.refl w1.heap.size w1).alloc (Nat.le_refl _) (.cells #[.int .i64 (fK id), .int .i64 (fW id), .int .i64 (fM id), .int .i64 (fB id), .int .u64 (fT id), .int .u64 (fI id), .int .u64 (fN id)] 73)).mono hb1.size)
      go_wp2
      go_ret2
      exact ⟨rfl, hB1⟩
    · have hm : mostV id true = fT id := by
        unfold mostV
        rw [if_neg (by rintro ⟨-, x⟩; rw [x] at k3; simp at k3)]
      rw [hm]
      clear hm he h3
      go_enter Tryz.func168, Tryz.ntmps168
      go_wp2_with fail
      refine hof.out.mono ?_
      rintro e w1 ⟨rfl, hb1⟩
      have hB1 := hb1.trans (((Below.refl w1.heap.size w1).alloc (Nat.le_refl _) (.cells #[.int .i64 (fK id), .int .i64 (fW id), .int .i64 (fM id), .int .i64 (fB id), .int .u64 (fT id), .int .u64 (fI id), .int .u64 (fN id)] 73)).mono hb1.size)
      go_wp2
      go_ret2
      exact ⟨rfl, hB1⟩
theorem formr_size : (Tryz.prog.info? 73).map (·.size) = some 7 := by kernel_rfl
set_option maxRecDepth 100000 in
set_option maxHeartbeats 4000000 in
theorem rfits7_yes (id : Int) (h1 : 1 ≤ id) (h2 : id < 15) (key : Nat) (hk : (key : Int) ≤ fitM id) (w : World) : Calls Tryz.prog 212 #[.int .i64 id, .int .u64 (key : Nat)] w fun e w' => e = .returned (.tuple #[.agg #[.int .i64 (fK id), .int .i64 (fW id), .int .i64 (fM id), .int .i64 (fB id), .int .u64 (fT id), .int .u64 (fI id), .int .u64 (fN id)], .int .i64 0]) ∧ Below w.heap.size w w' := by
  have hof := Lib.hid fun w => rof_yes id w h1 h2
  have hft := ft_bounds id
  have hfp : fT id < 18446744073709551615 := by rcases id_cases h1 h2 with rfl | rfl | rfl | rfl | rfl | rfl | rfl | rfl | rfl | rfl | rfl | rfl | rfl | rfl <;> decide
  have hcase : (¬ fT id < (key : Int)) ∨ (fT id < (key : Int) ∧ (fK id != 3) = false ∧ ¬ fT id + 1 < (key : Int)) := by
    by_cases hle : fT id < (key : Int)
    · right
      unfold fitM at hk
      split at hk
      · rename_i h3; exact ⟨hle, by simp [h3], by omega⟩
      · omega
    · exact .inl hle
  have hb0 := (Below.refl w.heap.size w).alloc (Nat.le_refl _) (.cells #[.int .i64 0, .int .i64 0, .int .i64 0, .int .i64 0, .int .u64 0, .int .u64 0, .int .u64 0] 73)
  have hr0 := pBlk_made w #[.int .i64 0, .int .i64 0, .int .i64 0, .int .i64 0, .int .u64 0, .int .u64 0, .int .u64 0] 73
  clear hk
  rcases hcase with a1 | ⟨a1, a2, a3⟩
  all_goals
    go_enter Tryz.func212, Tryz.ntmps212
    go_wp2_with fail
    refine (hof.out _).mono ?_
    rintro e w1 ⟨rfl, hb⟩
    have hal := (Below.refl w1.heap.size w1).alloc (Nat.le_refl _) (.cells #[.int .i64 (fK id), .int .i64 (fW id), .int .i64 (fM id), .int .i64 (fB id), .int .u64 (fT id), .int .u64 (fI id), .int .u64 (fN id)] 73)
    have hr2 := pBlk_st _ _ _ _ _ (pBlk_st _ _ _ _ _ hr0 hb) hal
    have hB2 := (hb0.trans (hb.mono hb0.size)).trans (hal.mono (Nat.le_trans hb0.size hb.size))
    clear hal hb hb0 hr0
    go_wp2_with (first | ((with_reducible show wpList _ _ _ (Oper.mk _ (Op.store 73 _ _) _ _ _ _ :: _) _ _); refine wpList_store_whole _ rfl 73 _ _ rfl w.heap.size #[.int .i64 (fK id), .int .i64 (fW id), .int .i64 (fM id), .int .i64 (fB id), .int .u64 (fT id), .int .u64 (fI id), .int .u64 (fN id)] #[.int .i64 0, .int .i64 0, .int .i64 0, .int .i64 0, .int .u64 0, .int .u64 0, .int .u64 0] 73 rfl rfl hr2 formr_size rfl (by simp [Value.oneCell']) ?_; intro w3 hp3 hb3 hz3))
    replace hp3 : pBlk w.heap.size #[.int .i64 (fK id), .int .i64 (fW id), .int .i64 (fM id), .int .i64 (fB id), .int .u64 (fT id), .int .u64 (fI id), .int .u64 (fN id)] 73 w3 := hp3
    obtain ⟨r0, r1, r2, r3, r4, r5, r6⟩ := cells7R hp3
    exact bodyPost_ret (v := .tuple #[.agg #[.int .i64 (fK id), .int .i64 (fW id), .int .i64 (fM id), .int .i64 (fB id), .int .u64 (fT id), .int .u64 (fI id), .int .u64 (fN id)], .int .i64 0]) (by simp [results, Tryz.results212, go_sem, r0, r1, r2, r3, r4, r5, r6]) rfl ⟨rfl, hB2.trans hb3⟩
end Go.Proofs.YtncfbleeidjflaaGreatDoor
namespace Go.Proofs.YtncfbleeidjflaaGreatDoor
open Go.RowKit Go.Cal
set_option maxRecDepth 100000 in
set_option maxHeartbeats 4000000 in
theorem rbetw7_any (id : Int) (h1 : 1 ≤ id) (h2 : id < 15) (key : Nat) (hk : (key : Int) ≤ fitM id) (w : World) :
    Calls Tryz.prog 195 #[.int .i64 id, .int .u64 (key : Nat)] w fun e w' => e = .returned (.tuple #[.int .u64 ((magV id 1 (2 * key + 1)).1 : Nat), .int .i64 (magV id 1 (2 * key + 1)).2, .int .i64 0]) ∧ Below w.heap.size w w' := by
  have hft := Lib.hid (rfits7_yes id h1 h2 key hk w)
  obtain ⟨w1, w2, w3, w4, e1, e2, e3⟩ := fo_wide h1 h2
  obtain ⟨-, kw, k1, k2, k4⟩ := mag_half h1 h2 hk
  have hKc : fK id = 1 ∨ fK id = 2 ∨ fK id = 3 ∨ fK id = 4 := by have := fK_bnd id; omega
  have hcast : ((2 * key + 1 : Nat) : Int) = 2 * (key : Int) + 1 := by push_cast; rfl
  clear hk
  rcases hKc with hK | hK | hK | hK
  · have b1 : (fK id == 1) = true := by simp [hK]
    obtain ⟨n, hn⟩ : ∃ n, (fW id).toNat + 1 - 1 = n := ⟨_, rfl⟩
    have hkk := k1 hK
    rw [hn] at hkk
    have hv : magV id 1 (2 * key + 1) = oddP 64 (poF (poL n (2 * key + 1)) ((2 * key + 1) % 2 ^ poL n (2 * key + 1))) (4 * poR n (2 * key + 1) + poE (poL n (2 * key + 1)) ((2 * key + 1) % 2 ^ poL n (2 * key + 1)) - (poL n (2 * key + 1) - 2 : Nat)) := by
      unfold magV numQ
      rw [hK, hn]
      rfl
    have h5 := fun w => rval5_any n (2 * key + 1) (by omega) (by omega) hkk.1 hkk.2 w
    have hnw : (n : Int) = fW id := by omega
    rw [← hv, hcast, hnw] at h5
    obtain ⟨⟨mv, ev⟩, hP⟩ : ∃ p, magV id 1 (2 * key + 1) = p := ⟨_, rfl⟩
    rw [hP] at h5 ⊢
    replace h5 := Lib.hid h5
    have hwb : fW id ≤ 64 ∧ 4 ≤ fW id := by omega
    obtain ⟨hwb1, hwb2⟩ := hwb
    clear hv hP hnw hn hkk k1 k2 k4 hK hcast e1 e2 e3 w1 w2 w3 w4 h1 h2
    go_enter Tryz.func195, Tryz.ntmps195
    go_wp2_with fail
    refine hft.out.mono ?_
    rintro e w1 ⟨rfl, hb1⟩
    have hB1 := hb1.trans (((Below.refl w1.heap.size w1).alloc (Nat.le_refl _) (.cells #[.int .i64 (fK id), .int .i64 (fW id), .int .i64 (fM id), .int .i64 (fB id), .int .u64 (fT id), .int .u64 (fI id), .int .u64 (fN id)] 73)).mono hb1.size)
    clear hft hb1
    go_wp2_with fail
    refine (h5.out _).mono ?_
    rintro e w2 ⟨rfl, hb2⟩
    have hB2 := hB1.trans (hb2.mono hB1.size)
    go_wp2
    exact bodyPost_ret (v := .tuple #[.int .u64 (mv : Nat), .int .i64 ev, .int .i64 0]) (by simp [results, Tryz.results195, go_sem]) rfl ⟨rfl, hB2⟩
  · have b1 : (fK id == 1) = false := by simp [hK]
    have b2 : (fK id == 2) = true := by simp [hK]
    have hv : magV id 1 (2 * key + 1) = oddP 64 (miM ((fM id).toNat + 1) (2 * key + 1)) ((miE ((fM id).toNat + 1) (2 * key + 1) : Int) - (fB id).toNat - ((fM id).toNat + 1 : Nat)) := by
      unfold magV numQ
      rw [hK]
      rfl
    have h6 := fun w => rval6_any ((fM id).toNat + 1) (fB id).toNat (2 * key + 1) (by omega) (by omega) kw (k2 hK) w
    have hmm : (((fM id).toNat + 1 : Nat) : Int) = fM id + 1 := by omega
    rw [← hv, hcast, hmm, ← e3] at h6
    obtain ⟨⟨mv, ev⟩, hP⟩ : ∃ p, magV id 1 (2 * key + 1) = p := ⟨_, rfl⟩
    rw [hP] at h6 ⊢
    replace h6 := Lib.hid h6
    have hwb : fM id ≤ 64 ∧ 0 ≤ fM id := by omega
    obtain ⟨hwb1, hwb2⟩ := hwb
    clear hv hP hmm k1 k2 k4 hK hcast e1 e2 e3 w1 w2 w3 w4 h1 h2
    go_enter Tryz.func195, Tryz.ntmps195
    go_wp2_with fail
    refine hft.out.mono ?_
    rintro e w1 ⟨rfl, hb1⟩
    have hB1 := hb1.trans (((Below.refl w1.heap.size w1).alloc (Nat.le_refl _) (.cells #[.int .i64 (fK id), .int .i64 (fW id), .int .i64 (fM id), .int .i64 (fB id), .int .u64 (fT id), .int .u64 (fI id), .int .u64 (fN id)] 73)).mono hb1.size)
    clear hft hb1
    go_wp2_with fail
    refine (h6.out _).mono ?_
    rintro e w2 ⟨rfl, hb2⟩
    have hB2 := hB1.trans (hb2.mono hB1.size)
    go_wp2
    exact bodyPost_ret (v := .tuple #[.int .u64 (mv : Nat), .int .i64 ev, .int .i64 0]) (by simp [results, Tryz.results195, go_sem]) rfl ⟨rfl, hB2⟩
  · have b1 : (fK id == 1) = false := by simp [hK]
    have b2 : (fK id == 2) = false := by simp [hK]
    have b3 : (fK id == 3) = true := by simp [hK]
    have hv : magV id 1 (2 * key + 1) = (2 * key + 1, -(fM id) - 1) := by
      unfold magV numQ
      rw [hK]
      show oddP 64 (2 * key + 1) (-(((fM id).toNat + 1 : Nat) : Int)) = _
      rw [oddP_odd _ _ _ (by omega)]
      congr 1
      omega
    rw [hv]
    have hwb : fM id ≤ 64 ∧ 0 ≤ fM id := by omega
    obtain ⟨hwb1, hwb2⟩ := hwb
    clear hv k1 k2 k4 hK hcast e1 e2 e3 w1 w2 w3 w4 h1 h2
    go_enter Tryz.func195, Tryz.ntmps195
    go_wp2_with fail
    refine hft.out.mono ?_
    rintro e w1 ⟨rfl, hb1⟩
    have hB1 := hb1.trans (((Below.refl w1.heap.size w1).alloc (Nat.le_refl _) (.cells #[.int .i64 (fK id), .int .i64 (fW id), .int .i64 (fM id), .int .i64 (fB id), .int .u64 (fT id), .int .u64 (fI id), .int .u64 (fN id)] 73)).mono hb1.size)
    clear hft hb1
    go_wp2_with fail
    go_quiet (fail)
    go_wp2
    exact bodyPost_ret (v := .tuple #[.int .u64 ((2 * key + 1 : Nat) : Int), .int .i64 (-(fM id) - 1), .int .i64 0]) (by simp [results, Tryz.results195, go_sem]) rfl ⟨rfl, hB1.trans ⟨rfl, rfl, rfl, Nat.le_refl _, fun _ _ => rfl⟩⟩
  · have b1 : (fK id == 1) = false := by simp [hK]
    have b2 : (fK id == 2) = false := by simp [hK]
    have b3 : (fK id == 3) = false := by simp [hK]
    have hk4 := k4 hK
    have hv : magV id 1 (2 * key + 1) = (3, (key : Int) - fB id - 1) := by
      unfold magV numQ
      rw [hK]
      show oddP 64 (1 + 2 * 1) ((((2 * key + 1) / 2 ^ 1 : Nat) : Int) - ((fB id).toNat : Int) - ((1 : Nat) : Int)) = _
      rw [oddP_odd _ _ _ (by omega), show (2 * key + 1) / 2 ^ 1 = key by omega]
      congr 1
      omega
    rw [hv]
    have hwb : fB id ≤ 2000 ∧ 0 ≤ fB id := by omega
    obtain ⟨hwb1, hwb2⟩ := hwb
    have hkb : key < 10000 := by omega
    clear hv k1 k2 k4 hK hcast e1 e2 e3 w1 w2 w3 w4 h1 h2 hk4
    go_enter Tryz.func195, Tryz.ntmps195
    go_wp2_with fail
    refine hft.out.mono ?_
    rintro e w1 ⟨rfl, hb1⟩
    have hB1 := hb1.trans (((Below.refl w1.heap.size w1).alloc (Nat.le_refl _) (.cells #[.int .i64 (fK id), .int .i64 (fW id), .int .i64 (fM id), .int .i64 (fB id), .int .u64 (fT id), .int .u64 (fI id), .int .u64 (fN id)] 73)).mono hb1.size)
    clear hft hb1
    go_wp2_with fail
    go_quiet (fail)
    go_wp2
    exact bodyPost_ret (v := .tuple #[.int .u64 ((3 : Nat) : Int), .int .i64 ((key : Int) - fB id - 1), .int .i64 0]) (by simp [results, Tryz.results195, go_sem]) rfl ⟨rfl, hB1.trans ⟨rfl, rfl, rfl, Nat.le_refl _, fun _ _ => rfl⟩⟩
end Go.Proofs.YtncfbleeidjflaaGreatDoor
namespace Go.Proofs.YtncfbleeidjflaaGreatDoor
open Go.RowKit Go.Cal
theorem five_fits (n : Nat) : 5 ^ n < 4294967296 ^ (n + 1) := by
  have h1 : 5 ^ n ≤ 4294967296 ^ n := Nat.pow_le_pow_left (by decide) n
  have h2 : 4294967296 ^ n < 4294967296 ^ (n + 1) := Nat.pow_lt_pow_right (by decide) (Nat.lt_succ_self n)
  exact Nat.lt_of_le_of_lt h1 h2
theorem TellsH.fit {w : World} {k k' N : Nat} {e : Ending} {w' : World} (h : TellsH w k N e w') (hk : N < 4294967296 ^ k') : TellsH w k' N e w' := by
  obtain ⟨v, h1, h2, h3, h4⟩ := h
  exact ⟨v, h1, IsH.fit h2 hk, h3, h4⟩
theorem isH_one (w : World) (L : List Nat) (cs : Array Value) (N : Nat) (hcs : cs = (lU L).toArray) (hd : L.all (· < 4294967296) = true) (ht : Top L) (hk : L.length = 1) (hv : vl 4294967296 L = N) : IsH (w.alloc (.cells cs 22)) (.slice (some ⟨w.heap.size, 0, none⟩) 1 1) 1 N :=
  IsH.lit w L cs 1 N hcs hd ht hk (by decide) hv
set_option maxRecDepth 100000 in
set_option maxHeartbeats 4000000 in
theorem fives_none (n : Int) (hn : n ≤ 0) (w : World) : Calls Tryz.prog 130 #[.int .i64 n] w (TellsH w 1 1) := by
  have hL := isH_one w [1] #[.int .u64 1] 1 rfl (by decide) (fun _ => by simp) rfl (by decide)
  go_enter Tryz.func130, Tryz.ntmps130
  go_wp2
  go_ret
  exact ⟨_, rfl, hL, (Below.refl _ _).alloc (Nat.le_refl _) _, fun A n c e a ha => by injection e with e1 e2 e3; subst e1; injection ha with ha; subst ha; exact Nat.le_refl _⟩
set_option maxRecDepth 100000 in
set_option maxHeartbeats 4000000 in
theorem fives_any : ∀ (n : Nat), n ≤ 20000 → ∀ w, Calls Tryz.prog 130 #[.int .i64 n] w (TellsH w (n + 1) (5 ^ n)) := by
  intro n
  induction n using Nat.strongRecOn with
  | ind n ih =>
    intro hn w
    rcases Nat.eq_zero_or_pos n with rfl | h0
    · exact fives_none _ (Int.le_refl _) w
    · have ihh := ih (n / 2) (by omega) (by omega) w
      have hni : ¬ (n : Int) ≤ 0 := by omega
      have hdv : (n : Int) / 2 = ((n / 2 : Nat) : Int) := by omega
      obtain ⟨h, hh⟩ : ∃ h, n / 2 = h := ⟨_, rfl⟩
      rw [hh] at ihh hdv
      replace ihh := Lib.hid ihh
      clear ih
      have hfit := five_fits n
      go_enter Tryz.func130, Tryz.ntmps130
      go_wp2_with fail
      refine ihh.out.mono ?_
      rintro e w1 ⟨v, rfl, hv, hb, hnw⟩
      have hL := ((LiveP.start w).go hb).put (pH_st _ _ _) hv
      clear hb hv hnw
      go_wp2_with fail
      refine (times_any w1 (hL.get (P := pH v (h + 1) (5 ^ h)) (by repeat (first | exact List.mem_cons_self | apply List.mem_cons_of_mem))) (hL.get (P := pH v (h + 1) (5 ^ h)) (by repeat (first | exact List.mem_cons_self | apply List.mem_cons_of_mem))) (by omega) (by omega)).mono ?_
      rintro e w2 ⟨v2, rfl, hv, hb, hnw⟩
      have hnw2 : New w v2 := fun A n c he a ha => Nat.le_trans hL.size (hnw A n c he a ha)
      replace hL := (hL.go hb).put (pH_st _ _ _) hv
      clear hb hv hnw
      by_cases hpar : n % 2 = 1
      · have hpi : (n : Int) % 2 = 1 := by omega
        have hpw : 5 ^ h * 5 ^ h * 5 = 5 ^ n := by rw [← Nat.pow_add, ← Nat.pow_succ]; congr 1; omega
        have hlit := isH_one w2 [5] #[.int .u64 5] 5 rfl (by decide) (fun _ => by simp) rfl (by decide)
        replace hL := (hL.go ((Below.refl _ _).alloc (Nat.le_refl _) (.cells #[.int .u64 5] 22))).put (pH_st _ _ _) hlit
        clear hlit
        go_wp2_with fail
        refine (times_any _ (hL.get (P := pH v2 (h + 1 + (h + 1)) (5 ^ h * 5 ^ h)) (by repeat (first | exact List.mem_cons_self | apply List.mem_cons_of_mem))) (hL.get (P := pH (.slice (some ⟨w2.heap.size, 0, none⟩) 1 1) 1 5) (by repeat (first | exact List.mem_cons_self | apply List.mem_cons_of_mem))) (by omega) (by omega)).mono ?_
        rintro e w3 ⟨v3, rfl, hv, hb, hnw⟩
        have hnw3 : New w v3 := fun A n c he a ha => Nat.le_trans hL.size (hnw A n c he a ha)
        rw [hpw] at hv
        replace hL := hL.go hb
        clear hb hnw
        go_wp2
        go_ret
        exact ⟨_, rfl, IsH.fit hv hfit, hL.below, hnw3⟩
      · have hpi : (n : Int) % 2 = 0 := by omega
        have hpw : 5 ^ h * 5 ^ h = 5 ^ n := by rw [← Nat.pow_add]; congr 1; omega
        have hv := hL.get (P := pH v2 (h + 1 + (h + 1)) (5 ^ h * 5 ^ h)) (by repeat (first | exact List.mem_cons_self | apply List.mem_cons_of_mem))
        rw [hpw] at hv
        go_wp2
        go_ret
        exact ⟨_, rfl, IsH.fit hv hfit, hL.below, hnw2⟩
theorem two_fits (T : Nat) : 2 ^ T ≤ 4294967296 ^ T := Nat.pow_le_pow_left (by decide) T
theorem exP_fits {k N : Nat} (hN : N < 18446744073709551616 ^ k) (F T : Nat) : N * 5 ^ F * 2 ^ T < 4294967296 ^ (2 * k + (F + 1) + T) := by
  have h1 : 18446744073709551616 ^ k = 4294967296 ^ (2 * k) := by rw [Nat.pow_mul]
  rw [h1] at hN
  rw [Nat.pow_add, Nat.pow_add]
  exact Nat.mul_lt_mul_of_lt_of_le (Nat.mul_lt_mul'' hN (five_fits F)) (two_fits T) (Nat.pow_pos (by decide))
theorem exQ_fits (G U : Nat) : 5 ^ G * 2 ^ U < 4294967296 ^ ((G + 1) + U) := by
  rw [Nat.pow_add]
  exact Nat.mul_lt_mul_of_lt_of_le (five_fits G) (two_fits U) (Nat.pow_pos (by decide))
theorem fives_int (n : Int) (m : Nat) (h : n.toNat = m) (hm : m ≤ 20000) (w : World) : Calls Tryz.prog 130 #[.int .i64 n] w (TellsH w (m + 1) (5 ^ m)) := by
  subst h
  rcases Int.le_total 0 n with h0 | h0
  · have := fives_any n.toNat hm w
    rwa [Int.toNat_of_nonneg h0] at this
  · have := fives_none n h0 w
    rw [show n.toNat = 0 by omega]
    exact this
end Go.Proofs.YtncfbleeidjflaaGreatDoor
