/- Print: the text of a pattern, walked. Conditions: the variables that values and words read. -/
/- Plain: what Short and Full tell are right digits. Conditions: none. -/
/- Print, PrintFull: walked. Conditions: the variables that values and words read. -/
/- Chapter 13: of and shown, walked. Conditions: the variables that values and words read. -/
/- Plain: the other sign's text. Conditions: none. -/
/- The law PrintSigns, walked. Conditions: the variables that values and words read. -/
/- Rows over print: the map of words out of the row's condition; a start that meets it. Conditions: none. -/
import Derived.Test.YtdlkfnkmdlcekaaGreatDoorPi06
import Derived.Test.YtdlkfnkmdlcekaaGreatDoorPi01
import Derived.Test.YtdlkfnkmdlcekaaGreatDoorPi04
import Derived.Test.YtdlkfnkmdlcekaaGreatDoorFo26
namespace Go.Proofs.YtdlkfnkmdlcekaaGreatDoor
open Go.RowKit Go.Cal
/-- What is not told in digits. -/
def wrdT (c : Int) : List UInt8 := if c = 1 then [48] else if c = 3 then [105, 110, 102] else [110, 97, 110]
/-- The table of words stands in its variable. -/
def WrdW (w : World) : Prop := 2 < w.heap.size ∧ ∃ mv, w.cell? ⟨2, 0, none⟩ = some mv ∧ ∀ wr, Below w.heap.size w wr → ∀ c : Int, (c = 1 ∨ c = 3 ∨ c = 4) → (Instr.lookup 135 mv (.int .i64 c) false).run Tryz.prog wr = .ok (.string (strL (wrdT c))) wr
theorem WrdW.below {w w' : World} (h : WrdW w) (hb : Below w.heap.size w w') : WrdW w' := by
  obtain ⟨h1, mv, h2, h3⟩ := h
  exact ⟨Nat.lt_of_lt_of_le h1 hb.size, mv, by rw [(bcell hb).1 _ _ h1]; exact h2, fun wr hr => h3 wr (hb.trans (hr.mono hb.size))⟩
theorem WrdW.out {w : World} (h : WrdW w) {c : Int} (hc : c = 1 ∨ c = 3 ∨ c = 4) : 2 < w.heap.size ∧ ∃ mv, w.cell? ⟨2, 0, none⟩ = some mv ∧ ∀ wr, Below w.heap.size w wr → (Instr.lookup 135 mv (.int .i64 c) false).run Tryz.prog wr = .ok (.string (strL (wrdT c))) wr := by
  obtain ⟨h1, mv, h2, h3⟩ := h
  exact ⟨h1, mv, h2, fun wr hr => h3 wr hr c hc⟩
/-- The variables that print reads. -/
structure PrW (w : World) : Prop where
  va : VaW w
  tab : Tab10 w
  wrd : WrdW w
theorem PrW.below {w w' : World} (h : PrW w) (hb : Below w.heap.size w w') : PrW w' := ⟨h.va.below hb, h.tab.below hb, h.wrd.below hb⟩
theorem right_lt {N : Nat} {k : Int} (h : DRight N k) : N < 18446744073709551616 ^ 128 := by
  rcases h with ⟨rfl, _⟩ | ⟨_, _, h, _⟩
  · exact Nat.pow_pos (by decide)
  · have h1 := numV_lt (Lib.decDigits N) (dec_digs _)
    rw [numV_dec] at h1
    exact Nat.lt_of_lt_of_le (lt_powF h1 h) (by decide +kernel)
/-- The text of what is told by a coefficient and tens. -/
def dgtT (id p : Int) (r : Nat × Int) : List UInt8 := lyT (partN id p) r.1 r.2
set_option maxRecDepth 100000 in
set_option maxHeartbeats 4000000 in
theorem told_no (k : Nat) (id p : Int) (hp0 : 0 ≤ p) (hp1 : p < 18446744073709551616) (hf : fitsV id p ≠ 0) (w : World) (hW : PrW w) :
    Calls Tryz.prog 40 #[.int .i64 id, .int .u64 p, .func (.func k) #[] #[]] w fun e w' => e = .returned (.tuple #[.string (strL []), .int .i64 (fitsV id p)]) ∧ Below w.heap.size w w' := by
  have hdc := Lib.hid fun w (hW : PrW w) => vdec_no id p hp0 hp1 hf w hW.va
  have hff : (fitsV id p != 0) = true := by simp [hf]
  generalize fitsV id p = E at hdc hff ⊢
  clear hf
  go_enter Tryz.func40, Tryz.ntmps40
  go_wp2_with fail
  refine (hdc.out _ hW).mono ?_
  rintro e w1 ⟨rfl, hb⟩
  go_wp2_with fail
  go_ret2
  exact ⟨(by first | rfl | trivial), hb.alloc hb.size _⟩
set_option maxRecDepth 100000 in
set_option maxHeartbeats 4000000 in
theorem told_fin_short {id p : Int} {ng : Bool} {K mv : Nat} {ev : Int} (h : Fin id p ng K mv ev) (w : World) (hW : PrW w) (r : Nat × Int) (hr : shortV (limV id ng K) mv ev 2000 = r) (hR : DRight r.1 r.2) :
    Calls Tryz.prog 40 #[.int .i64 id, .int .u64 p, .func (.func 69) #[] #[]] w fun e w' => e = .returned (.tuple #[.string (strL (lyT ng r.1 r.2)), .int .i64 0]) ∧ Below w.heap.size w w' := by
  obtain ⟨d1, d2, d3⟩ := h.dec
  have hdc := Lib.hid fun w (hW : PrW w) => vdec_yes id p h.h1 h.h2 h.p0 h.p1 w hW.va
  rw [d1, d2, d3, h.cl] at hdc
  have hsh := Lib.hid fun w (hW : PrW w) => short_yes h w hW.va 2000 (by decide) (by decide) 13000 (by decide) (by decide)
  rw [hr] at hsh
  clear d1 d2 d3 hr h
  obtain ⟨D, E⟩ := r
  go_enter Tryz.func40, Tryz.ntmps40
  go_wp2_with fail
  refine (hdc.out _ hW).mono ?_
  rintro e w1 ⟨rfl, hb⟩
  go_wp2_with fail
  have hB1 : Below w.heap.size w (w1.alloc (.cells #[.int .i64 2, .bool ng, .int .u64 (mv : Nat), .int .i64 ev] 25)) := hb.alloc hb.size _
  refine (hsh.out _ (hW.below hB1)).mono ?_
  rintro e w2 ⟨A, n, c, rfl, hv, hb2⟩
  have hB2 := hB1.trans (hb2.mono hB1.size)
  clear hb hb2
  go_wp2_with fail
  have hB3 : Below w.heap.size w (w2.alloc (.cells #[.bool ng, .slice A n c, .int .i64 E] 72)) := hB2.alloc hB2.size _
  have hv3 := isT_fitX (hv.below ((Below.refl _ _).alloc (Nat.le_refl _) (.cells #[.bool ng, .slice A n c, .int .i64 E] 72))) (right_lt hR)
  refine (layout_any ng E (hW.tab.below hB3) hv3).mono ?_
  rintro e w4 ⟨rfl, hb4⟩
  go_wp2_with fail
  go_ret2
  refine ⟨?_, hB3.trans (hb4.mono hB3.size)⟩
  unfold lyR
  rw [if_pos hR]
  rfl
set_option maxRecDepth 100000 in
set_option maxHeartbeats 4000000 in
theorem told_fin_full {id p : Int} {ng : Bool} {K mv : Nat} {ev : Int} (h : Fin id p ng K mv ev) (w : World) (hW : PrW w) (r : Nat × Int) (hr : fullV mv ev 2000 = r) (hR : DRight r.1 r.2) :
    Calls Tryz.prog 40 #[.int .i64 id, .int .u64 p, .func (.func 41) #[] #[]] w fun e w' => e = .returned (.tuple #[.string (strL (lyT ng r.1 r.2)), .int .i64 0]) ∧ Below w.heap.size w w' := by
  obtain ⟨d1, d2, d3⟩ := h.dec
  have hdc := Lib.hid fun w (hW : PrW w) => vdec_yes id p h.h1 h.h2 h.p0 h.p1 w hW.va
  rw [d1, d2, d3, h.cl] at hdc
  have hsh := Lib.hid fun w (hW : PrW w) => full_yes h w hW.va 2000 (by decide) (by decide)
  rw [hr] at hsh
  clear d1 d2 d3 hr h
  obtain ⟨D, E⟩ := r
  go_enter Tryz.func40, Tryz.ntmps40
  go_wp2_with fail
  refine (hdc.out _ hW).mono ?_
  rintro e w1 ⟨rfl, hb⟩
  go_wp2_with fail
  have hB1 : Below w.heap.size w (w1.alloc (.cells #[.int .i64 2, .bool ng, .int .u64 (mv : Nat), .int .i64 ev] 25)) := hb.alloc hb.size _
  refine (hsh.out _ (hW.below hB1)).mono ?_
  rintro e w2 ⟨A, n, c, rfl, hv, hb2⟩
  have hB2 := hB1.trans (hb2.mono hB1.size)
  clear hb hb2
  go_wp2_with fail
  have hB3 : Below w.heap.size w (w2.alloc (.cells #[.bool ng, .slice A n c, .int .i64 E] 72)) := hB2.alloc hB2.size _
  have hv3 := isT_fitX (hv.below ((Below.refl _ _).alloc (Nat.le_refl _) (.cells #[.bool ng, .slice A n c, .int .i64 E] 72))) (right_lt hR)
  refine (layout_any ng E (hW.tab.below hB3) hv3).mono ?_
  rintro e w4 ⟨rfl, hb4⟩
  go_wp2_with fail
  go_ret2
  refine ⟨?_, hB3.trans (hb4.mono hB3.size)⟩
  unfold lyR
  rw [if_pos hR]
  rfl
theorem wrdT_len (c : Int) : (wrdT c).length ≤ 3 := by
  unfold wrdT
  split
  · simp
  · split <;> simp
theorem neg_cat (l : List UInt8) : (⟨#[45]⟩ : ByteArray) ++ strL l = strL (45 :: l) := by
  unfold strL
  refine ByteArray.ext ?_
  simp
/-- The text of what is no number, or 0. -/
def nfT (id p : Int) : List UInt8 := if classV id p = 4 ∧ fK id = 1 then [78, 97, 82] else if decN id p = true then 45 :: wrdT (classV id p) else wrdT (classV id p)
set_option maxRecDepth 100000 in
set_option maxHeartbeats 4000000 in
theorem told_wrd (k : Nat) {id p : Int} (h1 : 1 ≤ id) (h2 : id < 15) (hp0 : 0 ≤ p) (hp1 : p < 2 ^ (fW id).toNat) (hc : classV id p = 1 ∨ classV id p = 3 ∨ classV id p = 4) (w : World) (hW : PrW w) :
    Calls Tryz.prog 40 #[.int .i64 id, .int .u64 p, .func (.func k) #[] #[]] w fun e w' => e = .returned (.tuple #[.string (strL (nfT id p)), .int .i64 0]) ∧ Below w.heap.size w w' := by
  have hdc := Lib.hid fun w (hW : PrW w) => vdec_yes id p h1 h2 hp0 hp1 w hW.va
  have hfo := Lib.hid fun w (hW : PrW w) => fo_of id w hW.va.frm h1 h2
  have hM : decM id p = 0 := by unfold decM; rw [if_neg (by omega)]
  have hE : decE id p = 0 := by unfold decE; rw [if_neg (by omega)]
  rw [hM, hE] at hdc
  unfold nfT
  have hN : classV id p = 4 → decN id p = false := fun h => by unfold decN; rw [if_pos h]
  clear hM hE hp0 hp1
  generalize decN id p = ng at hdc hN ⊢
  generalize classV id p = cc at hdc hc hN ⊢
  clear h1 h2
  generalize fK id = fk at hfo ⊢
  generalize fW id = fw at hfo
  generalize fM id = fm at hfo
  generalize fB id = fb at hfo
  generalize fT id = ft at hfo
  generalize fI id = fi at hfo
  generalize fN id = fn at hfo
  have hcase : ((cc == 4) = false ∧ ng = true) ∨ ((cc == 4) = false ∧ ng = false) ∨ ((cc == 4) = true ∧ ng = false ∧ (fk == 1) = true) ∨ ((cc == 4) = true ∧ ng = false ∧ (fk == 1) = false) := by
    rcases hc with h | h | h
    · cases ng <;> simp [h]
    · cases ng <;> simp [h]
    · have := hN h
      by_cases hk : fk = 1 <;> simp [h, this, hk]
  have hl0 := Lib.hid fun w (hW : WrdW w) => WrdW.out hW hc
  have hc2 : (cc == 2) = false := by
    rcases hc with rfl | rfl | rfl <;> rfl
  clear hc hN
  rcases hcase with ⟨hc4, rfl⟩ | ⟨hc4, rfl⟩ | ⟨hc4, rfl, hk⟩ | ⟨hc4, rfl, hk⟩
  · rw [show (if cc = 4 ∧ fk = 1 then [78, 97, 82] else if true = true then 45 :: wrdT cc else wrdT cc : List UInt8) = 45 :: wrdT cc by simp_all]
    obtain ⟨t, ht⟩ : ∃ t, strL (wrdT cc) = t := ⟨_, rfl⟩
    obtain ⟨u, hu⟩ : ∃ u, strL (45 :: wrdT cc) = u := ⟨_, rfl⟩
    rw [hu]
    have hcat : ⟨#[45]⟩ ++ t = strL (45 :: wrdT cc) := by rw [← ht]; exact neg_cat _
    have hut : ⟨#[45]⟩ ++ t = u := by first | exact hu | (rw [← hu]; rfl) | (rw [← hu, ← ht]; done) | (rw [hcat, ← hu]; done)
    have hts : ¬ 9223372036854775807 < 1 + t.size := by
      rw [← ht, strL_size]
      have := wrdT_len cc
      omega
    clear hcat
    replace hut := Lib.hid hut
    replace hu := Lib.hid hu
    go_enter Tryz.func40, Tryz.ntmps40
    go_wp2_with fail
    refine (hdc.out _ hW).mono ?_
    rintro e w1 ⟨rfl, hb⟩
    go_wp2_with fail
    have hB1 : Below w.heap.size w (w1.alloc (.cells #[.int .i64 cc, .bool true, .int .u64 0, .int .i64 0] 25)) := hb.alloc hb.size _
    refine (hfo.out _ (hW.below hB1)).mono ?_
    rintro e w2 ⟨rfl, hb2⟩
    have hB2 := hB1.trans (hb2.mono hB1.size)
    obtain ⟨hn1, mv, hn2, hn3⟩ := hl0.out _ (hW.wrd.below hB2)
    have hp := pBlk_st _ _ _ _ _ (pBlk_made w1 #[.int .i64 cc, .bool true, .int .u64 0, .int .i64 0] 25) hb2
    have hz : w1.heap.size < w2.heap.size := by have := hb2.size; simp at this; omega
    have hl := hn3 (w2.alloc (.cells #[.int .i64 fk, .int .i64 fw, .int .i64 fm, .int .i64 fb, .int .u64 ft, .int .u64 fi, .int .u64 fn] 39)) ((Below.refl _ _).alloc (Nat.le_refl _) _)
    rw [ht] at hl
    replace ht := Lib.hid ht
    obtain ⟨q0, q1, -, -⟩ := cells4 hp
    clear hn3 hp hb hb2
    go_wp2_with fail
    exact bodyPost_ret (v := .tuple #[.string (⟨#[45]⟩ ++ t), .int .i64 0]) (by simp [results, Tryz.results40, go_sem]) rfl ⟨by rw [hut.out], hB2.alloc hB2.size _⟩
  · rw [show (if cc = 4 ∧ fk = 1 then [78, 97, 82] else if false = true then 45 :: wrdT cc else wrdT cc : List UInt8) = wrdT cc by simp_all]
    obtain ⟨t, ht⟩ : ∃ t, strL (wrdT cc) = t := ⟨_, rfl⟩
    obtain ⟨u, hu⟩ : ∃ u, strL (wrdT cc) = u := ⟨_, rfl⟩
    rw [hu]
    have hcat : ⟨#[45]⟩ ++ t = strL (45 :: wrdT cc) := by rw [← ht]; exact neg_cat _
    have hut : t = u := by first | exact hu | (rw [← hu]; rfl) | (rw [← hu, ← ht]; done) | (rw [hcat, ← hu]; done)
    have hts : ¬ 9223372036854775807 < 1 + t.size := by
      rw [← ht, strL_size]
      have := wrdT_len cc
      omega
    clear hcat
    replace hut := Lib.hid hut
    replace hu := Lib.hid hu
    go_enter Tryz.func40, Tryz.ntmps40
    go_wp2_with fail
    refine (hdc.out _ hW).mono ?_
    rintro e w1 ⟨rfl, hb⟩
    go_wp2_with fail
    have hB1 : Below w.heap.size w (w1.alloc (.cells #[.int .i64 cc, .bool false, .int .u64 0, .int .i64 0] 25)) := hb.alloc hb.size _
    refine (hfo.out _ (hW.below hB1)).mono ?_
    rintro e w2 ⟨rfl, hb2⟩
    have hB2 := hB1.trans (hb2.mono hB1.size)
    obtain ⟨hn1, mv, hn2, hn3⟩ := hl0.out _ (hW.wrd.below hB2)
    have hp := pBlk_st _ _ _ _ _ (pBlk_made w1 #[.int .i64 cc, .bool false, .int .u64 0, .int .i64 0] 25) hb2
    have hz : w1.heap.size < w2.heap.size := by have := hb2.size; simp at this; omega
    have hl := hn3 (w2.alloc (.cells #[.int .i64 fk, .int .i64 fw, .int .i64 fm, .int .i64 fb, .int .u64 ft, .int .u64 fi, .int .u64 fn] 39)) ((Below.refl _ _).alloc (Nat.le_refl _) _)
    rw [ht] at hl
    replace ht := Lib.hid ht
    obtain ⟨q0, q1, -, -⟩ := cells4 hp
    clear hn3 hp hb hb2
    go_wp2_with fail
    exact bodyPost_ret (v := .tuple #[.string (t), .int .i64 0]) (by simp [results, Tryz.results40, go_sem]) rfl ⟨by rw [hut.out], hB2.alloc hB2.size _⟩
  · rw [show (if cc = 4 ∧ fk = 1 then [78, 97, 82] else if false = true then 45 :: wrdT cc else wrdT cc : List UInt8) = [78, 97, 82] by simp_all]
    obtain ⟨t, ht⟩ : ∃ t, strL (wrdT cc) = t := ⟨_, rfl⟩
    obtain ⟨u, hu⟩ : ∃ u, strL ([78, 97, 82]) = u := ⟨_, rfl⟩
    rw [hu]
    have hcat : ⟨#[45]⟩ ++ t = strL (45 :: wrdT cc) := by rw [← ht]; exact neg_cat _
    have hut : ⟨#[78, 97, 82]⟩ = u := by first | exact hu | (rw [← hu]; rfl) | (rw [← hu, ← ht]; done) | (rw [hcat, ← hu]; done)
    have hts : ¬ 9223372036854775807 < 1 + t.size := by
      rw [← ht, strL_size]
      have := wrdT_len cc
      omega
    clear hcat
    replace hut := Lib.hid hut
    replace hu := Lib.hid hu
    go_enter Tryz.func40, Tryz.ntmps40
    go_wp2_with fail
    refine (hdc.out _ hW).mono ?_
    rintro e w1 ⟨rfl, hb⟩
    go_wp2_with fail
    have hB1 : Below w.heap.size w (w1.alloc (.cells #[.int .i64 cc, .bool false, .int .u64 0, .int .i64 0] 25)) := hb.alloc hb.size _
    refine (hfo.out _ (hW.below hB1)).mono ?_
    rintro e w2 ⟨rfl, hb2⟩
    have hB2 := hB1.trans (hb2.mono hB1.size)
    obtain ⟨hn1, mv, hn2, hn3⟩ := hl0.out _ (hW.wrd.below hB2)
    have hp := pBlk_st _ _ _ _ _ (pBlk_made w1 #[.int .i64 cc, .bool false, .int .u64 0, .int .i64 0] 25) hb2
    have hz : w1.heap.size < w2.heap.size := by have := hb2.size; simp at this; omega
    have hl := hn3 (w2.alloc (.cells #[.int .i64 fk, .int .i64 fw, .int .i64 fm, .int .i64 fb, .int .u64 ft, .int .u64 fi, .int .u64 fn] 39)) ((Below.refl _ _).alloc (Nat.le_refl _) _)
    rw [ht] at hl
    replace ht := Lib.hid ht
    obtain ⟨q0, q1, -, -⟩ := cells4 hp
    clear hn3 hp hb hb2
    go_wp2_with fail
    exact bodyPost_ret (v := .tuple #[.string (⟨#[78, 97, 82]⟩), .int .i64 0]) (by simp [results, Tryz.results40, go_sem]) rfl ⟨by rw [hut.out], hB2.alloc hB2.size _⟩
  · rw [show (if cc = 4 ∧ fk = 1 then [78, 97, 82] else if false = true then 45 :: wrdT cc else wrdT cc : List UInt8) = wrdT cc by simp_all]
    obtain ⟨t, ht⟩ : ∃ t, strL (wrdT cc) = t := ⟨_, rfl⟩
    obtain ⟨u, hu⟩ : ∃ u, strL (wrdT cc) = u := ⟨_, rfl⟩
    rw [hu]
    have hcat : ⟨#[45]⟩ ++ t = strL (45 :: wrdT cc) := by rw [← ht]; exact neg_cat _
    have hut : t = u := by first | exact hu | (rw [← hu]; rfl) | (rw [← hu, ← ht]; done) | (rw [hcat, ← hu]; done)
    have hts : ¬ 9223372036854775807 < 1 + t.size := by
      rw [← ht, strL_size]
      have := wrdT_len cc
      omega
    clear hcat
    replace hut := Lib.hid hut
    replace hu := Lib.hid hu
    go_enter Tryz.func40, Tryz.ntmps40
    go_wp2_with fail
    refine (hdc.out _ hW).mono ?_
    rintro e w1 ⟨rfl, hb⟩
    go_wp2_with fail
    have hB1 : Below w.heap.size w (w1.alloc (.cells #[.int .i64 cc, .bool false, .int .u64 0, .int .i64 0] 25)) := hb.alloc hb.size _
    refine (hfo.out _ (hW.below hB1)).mono ?_
    rintro e w2 ⟨rfl, hb2⟩
    have hB2 := hB1.trans (hb2.mono hB1.size)
    obtain ⟨hn1, mv, hn2, hn3⟩ := hl0.out _ (hW.wrd.below hB2)
    have hp := pBlk_st _ _ _ _ _ (pBlk_made w1 #[.int .i64 cc, .bool false, .int .u64 0, .int .i64 0] 25) hb2
    have hz : w1.heap.size < w2.heap.size := by have := hb2.size; simp at this; omega
    have hl := hn3 (w2.alloc (.cells #[.int .i64 fk, .int .i64 fw, .int .i64 fm, .int .i64 fb, .int .u64 ft, .int .u64 fi, .int .u64 fn] 39)) ((Below.refl _ _).alloc (Nat.le_refl _) _)
    rw [ht] at hl
    replace ht := Lib.hid ht
    obtain ⟨q0, q1, -, -⟩ := cells4 hp
    clear hn3 hp hb hb2
    go_wp2_with fail
    exact bodyPost_ret (v := .tuple #[.string (t), .int .i64 0]) (by simp [results, Tryz.results40, go_sem]) rfl ⟨by rw [hut.out], hB2.alloc hB2.size _⟩
end Go.Proofs.YtdlkfnkmdlcekaaGreatDoor
namespace Go.Proofs.YtdlkfnkmdlcekaaGreatDoor
open Go.RowKit Go.Cal
theorem Fin.lims {id p : Int} {ng : Bool} {K mv : Nat} {ev : Int} (h : Fin id p ng K mv ev) : mostE id ng = 0 ∧ (K : Int) ≤ mostV id ng ∧ (fK id ≠ 4 → 0 < K) ∧ (K : Int) ≤ fitM id := by
  obtain ⟨x1, x2, x3, x4⟩ := class_two h.h1 h.h2 h.p0 h.p1 h.cl
  rw [h.key] at x1 x2 x3
  rw [h.ng] at x2 x4
  refine ⟨?_, x2, fun h4 => by have := x3 h4; omega, x1⟩
  have a1 := h.h1
  have a2 := h.h2
  unfold mostE
  rw [if_neg (by omega), if_neg (fun h => x4 h.1 h.2)]
/-- Where the search stands still, and what Short makes of it. -/
theorem short_some {id p : Int} {ng : Bool} {K mv : Nat} {ev : Int} (h : Fin id p ng K mv ev) :
    ∃ (d : Nat) (k : Int), itvHas (limV id ng K) d k = true ∧ (d = flQ mv ev k ∨ (d = flQ mv ev k + 1 ∧ 0 < flR mv ev k)) ∧ min ev 0 ≤ k ∧ k ≤ 700 ∧ d ≤ hasM mv ev + 1 ∧
      ∀ F, hasM mv ev + 1 < 10 ^ F → ∃ z : Nat, shortV (limV id ng K) mv ev F = (d / 10 ^ z, k + z) ∧ d / 10 ^ z * 10 ^ z = d ∧ d / 10 ^ z % 10 ≠ 0 ∧ z < F := by
  obtain ⟨hE, x2, hK0, -⟩ := h.lims
  obtain ⟨b1, b2, b3, b4⟩ := h.bnd
  have hns := nig_some hE x2 hK0 h.mag
  have hlb := lgV_bnd b1 (by simpa using b2) ⟨b3, b4⟩
  have hlb2 := lgV_ge b1 (by simpa using b2) ⟨b3, b4⟩
  obtain ⟨d, k, e1, e2, e3, e4⟩ := seekV_is 3000 (lgV mv ev) (min ev 0) (by omega) (by decide) hns
  obtain ⟨n1, n2⟩ := nearV_some e2
  have hk : min ev 0 ≤ k := by omega
  have hq := flQ_le (m := mv) (e := ev) hk
  have hd : d ≤ hasM mv ev + 1 := by
    rcases n2 with rfl | ⟨rfl, _⟩
    · omega
    · omega
  refine ⟨d, k, n1, n2, hk, by omega, hd, fun F hF => ?_⟩
  obtain ⟨z, z1, z2, z3, z4⟩ := stripV_is F d k (itv_pos n1) (by omega)
  refine ⟨z, ?_, z2, z3, z4⟩
  unfold shortV
  rw [e1]
  exact z1
theorem right_of {d z : Nat} {k : Int} (h2 : d / 10 ^ z % 10 ≠ 0) (h3 : d < 10 ^ 2000) (hz : z < 2000) (hk : -2000 ≤ k ∧ k ≤ 700) : DRight (d / 10 ^ z) (k + z) := by
  refine .inr ⟨?_, h2, ?_, by omega, by omega⟩
  · rcases Nat.eq_zero_or_pos (d / 10 ^ z) with h | h
    · rw [h] at h2; omega
    · exact h
  · exact (padd_dec 2000 _ (by decide) (Nat.lt_of_le_of_lt (Nat.div_le_self _ _) h3)).2
theorem short_right {id p : Int} {ng : Bool} {K mv : Nat} {ev : Int} (h : Fin id p ng K mv ev) : DRight (shortV (limV id ng K) mv ev 2000).1 (shortV (limV id ng K) mv ev 2000).2 := by
  obtain ⟨b1, b2, b3, b4⟩ := h.bnd
  obtain ⟨d, k, n1, n2, n3, n4, n5, n6⟩ := short_some h
  have hM := (hasM_bnd b2 ⟨b3, b4⟩ (show 1991 ≤ 2000 by decide)).1
  obtain ⟨z, z1, z2, z3, z4⟩ := n6 2000 hM
  rw [z1]
  exact right_of z3 (Nat.lt_of_le_of_lt n5 hM) z4 ⟨by omega, n4⟩
theorem full_right {id p : Int} {ng : Bool} {K mv : Nat} {ev : Int} (h : Fin id p ng K mv ev) : DRight (fullV mv ev 2000).1 (fullV mv ev 2000).2 := by
  obtain ⟨b1, b2, b3, b4⟩ := h.bnd
  have hM := (hasM_bnd b2 ⟨b3, b4⟩ (show 1991 ≤ 2000 by decide)).1
  have hM1 : hasM mv ev < 10 ^ 2000 := Nat.lt_of_succ_lt hM
  obtain ⟨z, z1, z2, z3, z4⟩ := stripV_is 2000 (hasM mv ev) (hasK ev) (hasM_pos b1) hM1
  unfold fullV
  rw [z1]
  refine right_of z3 hM1 z4 ?_
  unfold hasK
  split
  · decide
  · omega
end Go.Proofs.YtdlkfnkmdlcekaaGreatDoor
namespace Go.Proofs.YtdlkfnkmdlcekaaGreatDoor
open Go.RowKit Go.Cal
/-- A pattern's magnitude and what its number is, as Short and Full read them. -/
def priK (id p : Int) : Nat := (partK id p).toNat
/-- The shortest digits of a pattern, and all. -/
def shoD (id p : Int) : Nat × Int := shortV (limV id (partN id p) (priK id p)) (decM id p) (decE id p) 2000
def fulD (id p : Int) : Nat × Int := fullV (decM id p) (decE id p) 2000
/-- The text of a pattern. -/
def priT (id p : Int) : List UInt8 := if fitsV id p ≠ 0 then [] else if classV id p = 2 then lyT (partN id p) (shoD id p).1 (shoD id p).2 else nfT id p
/-- The whole text of a pattern. -/
def fulT (id p : Int) : List UInt8 := if fitsV id p ≠ 0 then [] else if classV id p = 2 then lyT (partN id p) (fulD id p).1 (fulD id p).2 else nfT id p
theorem fits_two {id p : Int} (hf : fitsV id p = 0) : 1 ≤ id ∧ id < 15 ∧ p < 2 ^ (fW id).toNat := by
  unfold fitsV at hf
  split at hf
  · cases hf
  · rename_i h
    split at hf
    · exact ⟨by omega, by omega, by omega⟩
    · cases hf
theorem fin_of {id p : Int} (h1 : 1 ≤ id) (h2 : id < 15) (hp0 : 0 ≤ p) (hp1 : p < 2 ^ (fW id).toNat) (hc : classV id p = 2) : Fin id p (partN id p) (priK id p) (decM id p) (decE id p) := by
  have hk : partK id p = ((priK id p : Nat) : Int) := by
    have := partK_nonneg (id := id) hp0
    unfold priK
    omega
  refine ⟨h1, h2, hp0, hp1, hc, rfl, hk, ?_⟩
  unfold decM decE
  rw [if_pos hc, if_pos hc]
  rfl
theorem class_all (id p : Int) : classV id p = 1 ∨ classV id p = 2 ∨ classV id p = 3 ∨ classV id p = 4 := by
  unfold classV
  repeat' split
  all_goals simp
set_option maxRecDepth 100000 in
set_option maxHeartbeats 4000000 in
theorem print_any (id p : Int) (hp0 : 0 ≤ p) (hp1 : p < 18446744073709551616) (w : World) (hW : PrW w) :
    Calls Tryz.prog 34 #[.int .i64 id, .int .u64 p] w fun e w' => e = .returned (.tuple #[.string (strL (priT id p)), .int .i64 (fitsV id p)]) ∧ Below w.heap.size w w' := by
  by_cases hf : fitsV id p ≠ 0
  · have ht := Lib.hid (told_no 69 id p hp0 hp1 hf w hW)
    have hT : priT id p = [] := by unfold priT; rw [if_pos hf]
    rw [hT]
    clear hf hT hW hp0 hp1
    generalize fitsV id p = E at ht ⊢
    go_enter Tryz.func34, Tryz.ntmps34
    go_wp2_with fail
    refine ht.out.mono ?_
    rintro e w1 ⟨rfl, hb⟩
    go_wp2_with fail
    go_ret2
    exact ⟨(by first | rfl | trivial), hb⟩
  · have hf0 : fitsV id p = 0 := by simpa using hf
    obtain ⟨h1, h2, h3⟩ := fits_two hf0
    rw [hf0]
    by_cases hc : classV id p = 2
    · have hfin := fin_of h1 h2 hp0 h3 hc
      have hT : priT id p = lyT (partN id p) (shoD id p).1 (shoD id p).2 := by unfold priT; rw [if_neg hf, if_pos hc]
      rw [hT]
      have ht := Lib.hid (told_fin_short hfin w hW (shoD id p) rfl (short_right hfin))
      clear hf hf0 hT hW hp0 hp1 h1 h2 h3 hc hfin
      generalize lyT (partN id p) (shoD id p).1 (shoD id p).2 = S at ht ⊢
      go_enter Tryz.func34, Tryz.ntmps34
      go_wp2_with fail
      refine ht.out.mono ?_
      rintro e w1 ⟨rfl, hb⟩
      go_wp2_with fail
      go_ret2
      exact ⟨(by first | rfl | trivial), hb⟩
    · have hT : priT id p = nfT id p := by unfold priT; rw [if_neg hf, if_neg hc]
      rw [hT]
      have ht := Lib.hid (told_wrd 69 h1 h2 hp0 h3 (by rcases class_all id p with h | h | h | h <;> simp_all) w hW)
      clear hf hf0 hT hW hp0 hp1 h1 h2 h3 hc
      generalize nfT id p = S at ht ⊢
      go_enter Tryz.func34, Tryz.ntmps34
      go_wp2_with fail
      refine ht.out.mono ?_
      rintro e w1 ⟨rfl, hb⟩
      go_wp2_with fail
      go_ret2
      exact ⟨(by first | rfl | trivial), hb⟩
set_option maxRecDepth 100000 in
set_option maxHeartbeats 4000000 in
theorem pfull_any (id p : Int) (hp0 : 0 ≤ p) (hp1 : p < 18446744073709551616) (w : World) (hW : PrW w) :
    Calls Tryz.prog 16 #[.int .i64 id, .int .u64 p] w fun e w' => e = .returned (.tuple #[.string (strL (fulT id p)), .int .i64 (fitsV id p)]) ∧ Below w.heap.size w w' := by
  by_cases hf : fitsV id p ≠ 0
  · have ht := Lib.hid (told_no 41 id p hp0 hp1 hf w hW)
    have hT : fulT id p = [] := by unfold fulT; rw [if_pos hf]
    rw [hT]
    clear hf hT hW hp0 hp1
    generalize fitsV id p = E at ht ⊢
    go_enter Tryz.func16, Tryz.ntmps16
    go_wp2_with fail
    refine ht.out.mono ?_
    rintro e w1 ⟨rfl, hb⟩
    go_wp2_with fail
    go_ret2
    exact ⟨(by first | rfl | trivial), hb⟩
  · have hf0 : fitsV id p = 0 := by simpa using hf
    obtain ⟨h1, h2, h3⟩ := fits_two hf0
    rw [hf0]
    by_cases hc : classV id p = 2
    · have hfin := fin_of h1 h2 hp0 h3 hc
      have hT : fulT id p = lyT (partN id p) (fulD id p).1 (fulD id p).2 := by unfold fulT; rw [if_neg hf, if_pos hc]
      rw [hT]
      have ht := Lib.hid (told_fin_full hfin w hW (fulD id p) rfl (full_right hfin))
      clear hf hf0 hT hW hp0 hp1 h1 h2 h3 hc hfin
      generalize lyT (partN id p) (fulD id p).1 (fulD id p).2 = S at ht ⊢
      go_enter Tryz.func16, Tryz.ntmps16
      go_wp2_with fail
      refine ht.out.mono ?_
      rintro e w1 ⟨rfl, hb⟩
      go_wp2_with fail
      go_ret2
      exact ⟨(by first | rfl | trivial), hb⟩
    · have hT : fulT id p = nfT id p := by unfold fulT; rw [if_neg hf, if_neg hc]
      rw [hT]
      have ht := Lib.hid (told_wrd 41 h1 h2 hp0 h3 (by rcases class_all id p with h | h | h | h <;> simp_all) w hW)
      clear hf hf0 hT hW hp0 hp1 h1 h2 h3 hc
      generalize nfT id p = S at ht ⊢
      go_enter Tryz.func16, Tryz.ntmps16
      go_wp2_with fail
      refine ht.out.mono ?_
      rintro e w1 ⟨rfl, hb⟩
      go_wp2_with fail
      go_ret2
      exact ⟨(by first | rfl | trivial), hb⟩
end Go.Proofs.YtdlkfnkmdlcekaaGreatDoor
namespace Go.Proofs.YtdlkfnkmdlcekaaGreatDoor
open Go.RowKit Go.Cal
set_option maxRecDepth 100000 in
theorem pof_any (id p : Int) (hp0 : 0 ≤ p) (hp1 : p < 18446744073709551616) (w : World) (hW : PrW w) :
    Calls Tryz.prog 15 #[.int .i64 id, .int .u64 p] w fun e w' => e = .returned (.string (strL (priT id p))) ∧ Below w.heap.size w w' := by
  have ht := Lib.hid (print_any id p hp0 hp1 w hW)
  generalize priT id p = S at ht ⊢
  generalize fitsV id p = E at ht
  clear hp0 hp1 hW
  go_enter Tryz.func15, Tryz.ntmps15
  go_wp2_with fail
  refine ht.out.mono ?_
  rintro e w1 ⟨rfl, hb⟩
  go_wp2_with fail
  go_ret
  exact ⟨rfl, hb⟩
theorem pof_lit {id p : Int} {S : List UInt8} (h : priT id p = S) (hp0 : 0 ≤ p) (hp1 : p < 18446744073709551616) (w : World) (hW : PrW w) :
    Calls Tryz.prog 15 #[.int .i64 id, .int .u64 p] w fun e w' => e = .returned (.string (strL S)) ∧ Below w.heap.size w w' := h ▸ pof_any id p hp0 hp1 w hW
theorem s1 : priT 1 128 = [78, 97, 82] := by decide +kernel
theorem s2 : priT 6 252 = [45, 105, 110, 102] := by decide +kernel
theorem s3 : priT 13 2147483648 = [45, 48] := by decide +kernel
theorem s4 : priT 5 255 = [110, 97, 110] := by decide +kernel
theorem s5 : priT 14 4591870180066957722 = [48, 46, 49] := by decide +kernel
theorem s6 : priT 1 65 = [49, 46, 49] := by decide +kernel
theorem s7 : priT 14 1 = [53, 101, 45, 51, 50, 52] := by decide +kernel
theorem s8 : priT 11 255 = [110, 97, 110] := by decide +kernel
theorem s9 : fulT 12 11878 = [48, 46, 48, 57, 57, 57, 55, 53, 53, 56, 53, 57, 51, 55, 53] := by decide +kernel
theorem print_lit {id p E : Int} {S : List UInt8} (h : priT id p = S) (he : fitsV id p = E) (hp0 : 0 ≤ p) (hp1 : p < 18446744073709551616) (w : World) (hW : PrW w) :
    Calls Tryz.prog 34 #[.int .i64 id, .int .u64 p] w fun e w' => e = .returned (.tuple #[.string (strL S), .int .i64 E]) ∧ Below w.heap.size w w' := h ▸ he ▸ print_any id p hp0 hp1 w hW
theorem pfull_lit {id p E : Int} {S : List UInt8} (h : fulT id p = S) (he : fitsV id p = E) (hp0 : 0 ≤ p) (hp1 : p < 18446744073709551616) (w : World) (hW : PrW w) :
    Calls Tryz.prog 16 #[.int .i64 id, .int .u64 p] w fun e w' => e = .returned (.tuple #[.string (strL S), .int .i64 E]) ∧ Below w.heap.size w w' := h ▸ he ▸ pfull_any id p hp0 hp1 w hW
theorem s10 : priT 0 0 = [] := by decide +kernel
theorem s11 : priT 9 16 = [] := by decide +kernel
theorem s12 : fitsV 0 0 = 3 := by decide +kernel
theorem s13 : fitsV 9 16 = 1 := by decide +kernel
theorem s14 : fitsV 12 11878 = 0 := by decide +kernel
set_option maxRecDepth 100000 in
set_option maxHeartbeats 4000000 in
/-- What must be in any case. -/
theorem rshown_any (w : World) (hW : PrW w) : Calls Tryz.prog 13 #[] w fun e w' => e = .returned (.bool true) ∧ Below w.heap.size w w' := by
  have hL : LiveP w w [] := LiveP.start w
  have e0 : ((strL [78, 97, 82]).toList == [78, 97, 82]) = true := by decide +kernel
  have e1 : ((strL [45, 105, 110, 102]).toList == [45, 105, 110, 102]) = true := by decide +kernel
  have e2 : ((strL [45, 48]).toList == [45, 48]) = true := by decide +kernel
  have e3 : ((strL [110, 97, 110]).toList == [110, 97, 110]) = true := by decide +kernel
  have e4 : ((strL [48, 46, 49]).toList == [48, 46, 49]) = true := by decide +kernel
  have e5 : ((strL [49, 46, 49]).toList == [49, 46, 49]) = true := by decide +kernel
  have e6 : ((strL [53, 101, 45, 51, 50, 52]).toList == [53, 101, 45, 51, 50, 52]) = true := by decide +kernel
  have e7 : ((strL [48, 46, 48, 57, 57, 57, 55, 53, 53, 56, 53, 57, 51, 55, 53]).toList == [48, 46, 48, 57, 57, 57, 55, 53, 53, 56, 53, 57, 51, 55, 53]) = true := by decide +kernel
  go_enter Tryz.func13, Tryz.ntmps13
  go_wp2_with fail
  refine (print_lit s10 s12 (by decide) (by decide) _ (hW.below hL.below)).mono ?_
  rintro e w0 ⟨rfl, hb⟩
  replace hL := hL.go hb
  clear hb
  go_wp2_with fail
  refine (print_lit s11 s13 (by decide) (by decide) _ (hW.below hL.below)).mono ?_
  rintro e w1 ⟨rfl, hb⟩
  replace hL := hL.go hb
  clear hb
  go_wp2_with fail
  refine (pfull_lit s9 s14 (by decide) (by decide) _ (hW.below hL.below)).mono ?_
  rintro e w2 ⟨rfl, hb⟩
  replace hL := hL.go hb
  clear hb
  go_wp2_with fail
  refine (pof_lit s1 (by decide) (by decide) _ (hW.below hL.below)).mono ?_
  rintro e v1 ⟨rfl, hb⟩
  replace hL := hL.go hb
  clear hb
  go_wp2_with fail
  refine (pof_lit s2 (by decide) (by decide) _ (hW.below hL.below)).mono ?_
  rintro e v2 ⟨rfl, hb⟩
  replace hL := hL.go hb
  clear hb
  go_wp2_with fail
  refine (pof_lit s3 (by decide) (by decide) _ (hW.below hL.below)).mono ?_
  rintro e v3 ⟨rfl, hb⟩
  replace hL := hL.go hb
  clear hb
  go_wp2_with fail
  refine (pof_lit s4 (by decide) (by decide) _ (hW.below hL.below)).mono ?_
  rintro e v4 ⟨rfl, hb⟩
  replace hL := hL.go hb
  clear hb
  go_wp2_with fail
  refine (pof_lit s5 (by decide) (by decide) _ (hW.below hL.below)).mono ?_
  rintro e v5 ⟨rfl, hb⟩
  replace hL := hL.go hb
  clear hb
  go_wp2_with fail
  refine (pof_lit s6 (by decide) (by decide) _ (hW.below hL.below)).mono ?_
  rintro e v6 ⟨rfl, hb⟩
  replace hL := hL.go hb
  clear hb
  go_wp2_with fail
  refine (pof_lit s7 (by decide) (by decide) _ (hW.below hL.below)).mono ?_
  rintro e v7 ⟨rfl, hb⟩
  replace hL := hL.go hb
  clear hb
  go_wp2_with fail
  refine (pof_lit s8 (by decide) (by decide) _ (hW.below hL.below)).mono ?_
  rintro e v8 ⟨rfl, hb⟩
  replace hL := hL.go hb
  clear hb
  go_wp2
  go_ret
  exact ⟨rfl, hL.below⟩
end Go.Proofs.YtdlkfnkmdlcekaaGreatDoor
namespace Go.Proofs.YtdlkfnkmdlcekaaGreatDoor
open Go.RowKit Go.Cal
/-- A form of both signs alike. -/
theorem sign_alike {id : Int} {neg : Bool} {key : Int} (h1 : 1 ≤ id) (h2 : id < 15) (h10 : id ≠ 10) (h4 : fK id ≠ 4) (hk : key ≤ mostV id neg) : mostE id (!neg) = 0 ∧ mostV id (!neg) = mostV id neg ∧ key ≤ mostV id (!neg) := by
  have hm : mostV id (!neg) = mostV id neg := by
    have h3 : fK id ≠ 3 := by
      rcases id_cases h1 h2 with rfl | rfl | rfl | rfl | rfl | rfl | rfl | rfl | rfl | rfl | rfl | rfl | rfl | rfl <;> first | (exact absurd rfl h10) | decide
    cases neg <;> simp [mostV, h3]
  refine ⟨?_, hm, by rw [hm]; exact hk⟩
  unfold mostE
  rw [if_neg (by omega), if_neg (fun h => h4 h.2)]
theorem lim_flip {id : Int} {neg : Bool} {K : Nat} (h : mostV id (!neg) = mostV id neg) : limV id (!neg) K = limV id neg K := by
  unfold limV limH
  rw [h]
/-- The pattern of the other sign: its text. -/
theorem flip_text {id p : Int} (h1 : 1 ≤ id) (h2 : id < 15) (h10 : id ≠ 10) (h4 : fK id ≠ 4) (hp0 : 0 ≤ p) (hp1 : p < 2 ^ (fW id).toNat) (hc : classV id p = 2) :
    priT id p = lyT (partN id p) (shoD id p).1 (shoD id p).2 ∧ priT id (patV id (!partN id p) (partK id p)) = lyT (!partN id p) (shoD id p).1 (shoD id p).2 := by
  obtain ⟨x1, x2, x3, x4⟩ := class_two h1 h2 hp0 hp1 hc
  have hk0 := x3 h4
  have hn := partK_nonneg (id := id) hp0
  obtain ⟨e1, e2, e3⟩ := sign_alike h1 h2 h10 h4 x2
  obtain ⟨q0, q1⟩ := pat_bnd e1 hn e3
  have qk := pat_key e1 hn e3
  have qn := pat_neg e1 hn e3 (.inl hk0)
  have qc := pat_class e1 hn e3
  rw [if_neg (fun h => hk0 h.1)] at qc
  obtain ⟨qf, -⟩ := pat_canon e1 hn e3
  have hf : fitsV id p = 0 := by unfold fitsV; rw [if_neg (by omega), if_pos hp1]
  obtain ⟨q, hq⟩ : ∃ q, patV id (!partN id p) (partK id p) = q := ⟨_, rfl⟩
  rw [hq] at qk qn qc qf ⊢
  refine ⟨by unfold priT; rw [if_neg (fun h => h hf), if_pos hc], ?_⟩
  have hD : shoD id q = shoD id p := by
    have hK : priK id q = priK id p := by unfold priK; rw [qk]
    have hM : decM id q = decM id p := by unfold decM; rw [if_pos qc, if_pos hc, qk]
    have hE : decE id q = decE id p := by unfold decE; rw [if_pos qc, if_pos hc, qk]
    unfold shoD
    rw [hK, hM, hE, qn, lim_flip e2]
  unfold priT
  rw [if_neg (fun h => h qf), if_pos qc, qn, hD]
theorem lyT_neg (d : Nat) (k : Int) : lyT true d k = 45 :: lyT false d k := by
  unfold lyT
  simp
end Go.Proofs.YtdlkfnkmdlcekaaGreatDoor
namespace Go.Proofs.YtdlkfnkmdlcekaaGreatDoor
open Go.RowKit Go.Cal
set_option maxRecDepth 100000 in
set_option maxHeartbeats 1000000 in
theorem vpat_no (id : Int) (neg : Bool) (key : Int) (he : mostE id neg ≠ 0) (w : World) (hW : VaW w) :
    Calls Tryz.prog 18 #[.int .i64 id, .bool neg, .int .u64 key] w fun e w' => e = .returned (.tuple #[.int .u64 0, .int .i64 (mostE id neg)]) ∧ Below w.heap.size w w' := by
  have hm := Lib.hid (vmost_any id neg w hW)
  have hme : (mostE id neg != 0) = true := by simp [he]
  generalize mostE id neg = E at hm hme ⊢
  generalize mostR id neg = R at hm
  clear he hW
  go_enter Tryz.func18, Tryz.ntmps18
  go_wp2_with fail
  refine hm.out.mono ?_
  rintro e w1 ⟨rfl, hb⟩
  go_wp2_with fail
  go_ret2
  exact ⟨(by first | rfl | trivial), hb⟩
theorem class_one {id p : Int} (h : classV id p = 1) : partK id p = 0 := by
  unfold classV at h
  repeat' split at h
  all_goals first | omega | simp_all
/-- What Key tells. -/
theorem key_any (id p : Int) (hp0 : 0 ≤ p) (hp1 : p < 18446744073709551616) :
    (∃ ng k E, E ≠ 0 ∧ ∀ w, VaW w → Calls Tryz.prog 17 #[.int .i64 id, .int .u64 p] w fun e w' => e = .returned (.tuple #[.bool ng, .int .u64 k, .int .i64 E]) ∧ Below w.heap.size w w') ∨
    (1 ≤ id ∧ id < 15 ∧ p < 2 ^ (fW id).toNat ∧ (classV id p = 1 ∨ classV id p = 2) ∧ ∀ w, VaW w → Calls Tryz.prog 17 #[.int .i64 id, .int .u64 p] w fun e w' => e = .returned (.tuple #[.bool (partN id p), .int .u64 (partK id p), .int .i64 0]) ∧ Below w.heap.size w w') := by
  by_cases hf : fitsV id p = 0
  · obtain ⟨h1, h2, h3⟩ := fits_two hf
    by_cases hc : classV id p = 1 ∨ classV id p = 2
    · exact .inr ⟨h1, h2, h3, hc, fun w hW => vkey_yes id p h1 h2 hp0 h3 hc w hW⟩
    · refine .inl ⟨_, _, _, by decide, fun w hW => vkey_none id p h1 h2 hp0 h3 ?_ w hW⟩
      rcases class_all id p with h | h | h | h <;> simp_all
  · exact .inl ⟨_, _, _, hf, fun w hW => vkey_form id p hp0 hp1 hf w hW⟩
set_option maxRecDepth 100000 in
set_option maxHeartbeats 4000000 in
theorem printSigns_any (id p : Int) (hp0 : 0 ≤ p) (hp1 : p < 18446744073709551616) (w : World) (hW : PrW w) :
    Calls Tryz.prog 4 #[.int .i64 id, .int .u64 p] w fun e w' => e = .returned (.bool true) ∧ Below w.heap.size w w' := by
  have hL0 : LiveP w w [] := LiveP.start w
  have hsh := Lib.hid fun w (hW : PrW w) => rshown_any w hW
  rcases key_any id p hp0 hp1 with ⟨ng, k, E, hE, hk⟩ | ⟨h1, h2, hp2, hc, hk⟩
  · have hky := Lib.hid fun w (hW : PrW w) => hk w hW.va
    have hEb : (E != 0) = true := by simp [hE]
    clear hk hE hp0 hp1
    all_goals
                go_enter Tryz.func4, Tryz.ntmps4
                go_wp2_with fail
                refine (hsh.out _ hW).mono ?_
                rintro e w1 ⟨rfl, hb⟩
                have hL1 := hL0.go hb
                clear hb
                go_wp2_with fail
                refine (hky.out _ (hW.below hL1.below)).mono ?_
                rintro e w2 ⟨rfl, hb⟩
                have hL2 := hL1.go hb
                clear hb
                go_wp2
                go_ret
                exact ⟨rfl, hL2.below⟩
  · have hky := Lib.hid fun w (hW : PrW w) => hk w hW.va
    have hn := partK_nonneg (id := id) hp0
    by_cases hc1 : partK id p = 0 ∨ id = 10
    · have hor : (partK id p == 0) = true ∨ ((partK id p == 0) = false ∧ (id == 10) = true) := by
        rcases Classical.em (partK id p = 0) with h | h
        · exact .inl (by simp [h])
        · refine .inr ⟨by simp [h], ?_⟩
          rcases hc1 with h' | h'
          · exact absurd h' h
          · simp [h']
      generalize partK id p = key at hky hor
      generalize partN id p = ng at hky
      clear hk hc1 hn hc hp0 hp1 hp2 h1 h2
      rcases hor with hor | ⟨hor, ho2⟩
      all_goals
                go_enter Tryz.func4, Tryz.ntmps4
                go_wp2_with fail
                refine (hsh.out _ hW).mono ?_
                rintro e w1 ⟨rfl, hb⟩
                have hL1 := hL0.go hb
                clear hb
                go_wp2_with fail
                refine (hky.out _ (hW.below hL1.below)).mono ?_
                rintro e w2 ⟨rfl, hb⟩
                have hL2 := hL1.go hb
                clear hb
                go_wp2
                go_ret
                exact ⟨rfl, hL2.below⟩
    · have hk0 : partK id p ≠ 0 := fun h => hc1 (.inl h)
      have h10 : id ≠ 10 := fun h => hc1 (.inr h)
      have hb0 : (partK id p == 0) = false := by simp [hk0]
      have hb1 : (id == 10) = false := by simp [h10]
      have hc2 : classV id p = 2 := by
        rcases hc with h | h
        · exact absurd (class_one h) hk0
        · exact h
      obtain ⟨x1, x2, x3, x4⟩ := class_two h1 h2 hp0 hp2 hc2
      by_cases h4 : fK id = 4
      · have hng : partN id p = false := by
          cases hN : partN id p with
          | false => rfl
          | true => exact absurd h4 (x4 hN)
        have hE : mostE id true ≠ 0 := by
          unfold mostE
          rw [if_neg (by omega), if_pos ⟨rfl, h4⟩]
          decide
        have hpt := Lib.hid fun w (hW : PrW w) => vpat_no id true (partK id p) hE w hW.va
        have hEb : (mostE id true != 0) = true := by simp [hE]
        rw [hng] at hky
        generalize partK id p = key at hky hb0 hpt
        generalize mostE id true = E at hpt hEb
        clear hk hk0 hn hc hc1 hc2 hp0 hp1 hp2 h1 h2 x1 x2 x3 x4 h10 h4 hng hE
        all_goals
                go_enter Tryz.func4, Tryz.ntmps4
                go_wp2_with fail
                refine (hsh.out _ hW).mono ?_
                rintro e w1 ⟨rfl, hb⟩
                have hL1 := hL0.go hb
                clear hb
                go_wp2_with fail
                refine (hky.out _ (hW.below hL1.below)).mono ?_
                rintro e w2 ⟨rfl, hb⟩
                have hL2 := hL1.go hb
                clear hb
                go_wp2_with fail
                refine (hpt.out _ (hW.below hL2.below)).mono ?_
                rintro e w3 ⟨rfl, hb⟩
                have hL3 := hL2.go hb
                clear hb
                go_wp2
                go_ret
                exact ⟨rfl, hL3.below⟩
      · obtain ⟨e1, e2, e3⟩ := sign_alike h1 h2 h10 h4 x2
        have hpt := Lib.hid fun w (hW : PrW w) => vpat_any id (!partN id p) (partK id p) e1 hn e3 w hW.va
        obtain ⟨q0, q1⟩ := pat_bnd e1 hn e3
        obtain ⟨t1, t2⟩ := flip_text h1 h2 h10 h4 hp0 hp2 hc2
        have hq64 : patV id (!partN id p) (partK id p) < 18446744073709551616 := by
          have h5 : (2 : Int) ^ (fW id).toNat ≤ 18446744073709551616 := by
            obtain ⟨w1, -, -⟩ := fo_wide h1 h2
            have h6 : 2 ^ (fW id).toNat ≤ 2 ^ 64 := Nat.pow_le_pow_right (by decide) w1
            have h7 : ((2 ^ (fW id).toNat : Nat) : Int) ≤ ((2 ^ 64 : Nat) : Int) := by exact_mod_cast h6
            simpa using h7
          omega
        have hR := short_right (fin_of h1 h2 hp0 hp2 hc2)
        have hlen := lyT_len false hR
        have ha := Lib.hid fun w (hW : PrW w) => pof_lit t1 hp0 hp1 w hW
        have hb := Lib.hid fun w (hW : PrW w) => pof_lit t2 q0 hq64 w hW
        replace hlen : (lyT false (shoD id p).1 (shoD id p).2).length ≤ 12100 := hlen
        generalize (shoD id p).1 = D at ha hb hlen
        generalize (shoD id p).2 = X at ha hb hlen
        generalize patV id (!partN id p) (partK id p) = q at hpt ha hb
        generalize partK id p = key at hky hb0 hpt
        generalize partN id p = ng at hky hpt ha hb
        clear hk hk0 hn hc hc1 hc2 hp0 hp1 hp2 h1 h2 x1 x2 x3 x4 h10 h4 e1 e2 e3 q0 q1 t1 t2 hq64 hR
        have hneg := lyT_neg D X
        obtain ⟨S, hS⟩ : ∃ S, lyT false D X = S := ⟨_, rfl⟩
        rw [hS] at hneg hlen
        obtain ⟨t, ht⟩ : ∃ t, strL S = t := ⟨_, rfl⟩
        obtain ⟨u, hu⟩ : ∃ u, strL (45 :: S) = u := ⟨_, rfl⟩
        have hcat : ⟨#[45]⟩ ++ t = u := by rw [← ht, ← hu]; exact neg_cat _
        have hts : ¬ 9223372036854775807 < 1 + t.size := by
          rw [← ht, strL_size]
          omega
        cases ng with
        | true =>
          simp only [Bool.not_true] at hpt hb
          rw [hneg, hu] at ha
          rw [hS, ht] at hb
          clear hneg hlen
          replace hS := Lib.hid hS
          replace ht := Lib.hid ht
          replace hu := Lib.hid hu
          all_goals
                go_enter Tryz.func4, Tryz.ntmps4
                go_wp2_with fail
                refine (hsh.out _ hW).mono ?_
                rintro e w1 ⟨rfl, hb⟩
                have hL1 := hL0.go hb
                clear hb
                go_wp2_with fail
                refine (hky.out _ (hW.below hL1.below)).mono ?_
                rintro e w2 ⟨rfl, hb⟩
                have hL2 := hL1.go hb
                clear hb
                go_wp2_with fail
                refine (hpt.out _ (hW.below hL2.below)).mono ?_
                rintro e w3 ⟨rfl, hb3⟩
                have hL3 := hL2.go hb3
                clear hb3
                go_wp2_with fail
                refine (ha.out _ (hW.below hL3.below)).mono ?_
                rintro e w4 ⟨rfl, hb4⟩
                have hL4 := hL3.go hb4
                clear hb4
                go_wp2_with fail
                refine (hb.out _ (hW.below hL4.below)).mono ?_
                rintro e w5 ⟨rfl, hb5⟩
                have hL5 := hL4.go hb5
                clear hb5
                go_wp2
                go_ret
                exact ⟨rfl, hL5.below⟩
        | false =>
          simp only [Bool.not_false] at hpt hb
          rw [hS, ht] at ha
          rw [hneg, hu] at hb
          clear hneg hlen
          replace hS := Lib.hid hS
          replace ht := Lib.hid ht
          replace hu := Lib.hid hu
          all_goals
                go_enter Tryz.func4, Tryz.ntmps4
                go_wp2_with fail
                refine (hsh.out _ hW).mono ?_
                rintro e w1 ⟨rfl, hb⟩
                have hL1 := hL0.go hb
                clear hb
                go_wp2_with fail
                refine (hky.out _ (hW.below hL1.below)).mono ?_
                rintro e w2 ⟨rfl, hb⟩
                have hL2 := hL1.go hb
                clear hb
                go_wp2_with fail
                refine (hpt.out _ (hW.below hL2.below)).mono ?_
                rintro e w3 ⟨rfl, hb3⟩
                have hL3 := hL2.go hb3
                clear hb3
                go_wp2_with fail
                refine (ha.out _ (hW.below hL3.below)).mono ?_
                rintro e w4 ⟨rfl, hb4⟩
                have hL4 := hL3.go hb4
                clear hb4
                go_wp2_with fail
                refine (hb.out _ (hW.below hL4.below)).mono ?_
                rintro e w5 ⟨rfl, hb5⟩
                have hL5 := hL4.go hb5
                clear hb5
                go_wp2
                go_ret
                exact ⟨rfl, hL5.below⟩
end Go.Proofs.YtdlkfnkmdlcekaaGreatDoor
namespace Go.Proofs.YtdlkfnkmdlcekaaGreatDoor
open Go.ChangeShapes Go.WideShapes Go.ChangeAt Go.RowKit Go.Cal Go.Maps
theorem zero_strP (w : World) : (zeroValue 9).run Tryz.prog w = .ok (.string ⟨#[]⟩) w := by kernel_rfl
theorem cells_strP {v : Value} (h : v.formed Tryz.prog 9 = true) : v.cells.toList = [v] := by
  cases v with
  | agg cs => simp [Value.formed, Tryz.underlying9] at h
  | _ => rfl
set_option maxRecDepth 100000 in
theorem wrd_one {W wr : World} {b n : Nat} {es : Array MapEntry} {clock : Nat} (hb : wr.heap[b]? = some (.map es clock)) (F : Go.WideElems.Fit Tryz.prog 3 (Go.WideElems.elemAt (fun _ => ()) Tryz.prog W 0 (fun _ => true) false n 9) es clock) (k : Int) (l : List UInt8) (hwf : (Lit.int .i64 k).wf = true)
    (hD : ∀ zd : DataW Unit, (DataW.map ((es.toList.map (Go.WideElems.rg Tryz.prog 3 (Go.WideElems.elemAt (fun _ => ()) Tryz.prog W 0 (fun _ => true) false n 9))).foldr DataW.insert [])).atKey (.int .i64 k) zd = .lit (.string l)) :
    (Instr.lookup 135 (.map (some b)) (.int .i64 k) false).run Tryz.prog wr = .ok (.string (strL l)) wr := by
  have hkey : keyOf Tryz.prog 3 (.int .i64 k) = some (.int .i64 k) := keyOf_int_mk Tryz.underlying3 hwf
  rcases fit_look false law_int Tryz.underlying135 (zero_strP wr) hb F hkey with ⟨_, _, hz⟩ | ⟨e0, y, _, _, hrun, hR, hy, _⟩
  · have := (hz .nil).symm.trans (hD .nil)
    cases this
  · have h1 : y.1 = .lit (.string l) := (hy .nil).symm.trans (hD .nil)
    unfold Go.WideElems.elemAt at hR
    split at hR
    · rename_i hf
      rw [cells_strP hf] at hR
      obtain ⟨s, hs, hx, _⟩ := DataW.trod_string Tryz.underlying9 hR
      rw [hx] at h1
      have hl : s.data.toList = l := by
        have h2 : (DataW.lit (.string s.data.toList) : DataW Unit) = DataW.lit (.string l) := h1
        injection h2 with h2
        injection h2
      have hv := (List.cons.inj hs).1
      rw [hrun]
      subst hl
      simp [hv, strL]
    · cases hR
theorem wrdW_of_laid {W : World} {laid : List (String × DataW Unit)} (h : laidMet Tryz.prog laid W) (hm : ("caliper/print.words", Rows.laid_caliper_print_words) ∈ laid) : WrdW W := by
  obtain ⟨ps, hl, _⟩ := h
  obtain ⟨g, t, cs, fuel, p, hg, ht, hv, hd⟩ := laidVars_mem hl hm
  obtain rfl := Option.some.inj ((show Tryz.prog.globalNamed "caliper/print.words" = some 2 by kernel_rfl).symm.trans hg)
  obtain rfl := Option.some.inj ((show (Tryz.prog.globals[2]?).map (·.type) = some 135 by kernel_rfl).symm.trans ht)
  have hd' : DataW.trod (fun _ => ()) Tryz.prog W 0 (fun _ => true) false fuel 135 cs.toList = some (.map [(.int .i64 1, .lit (.string [48])), (.int .i64 3, .lit (.string [105, 110, 102])), (.int .i64 4, .lit (.string [110, 97, 110]))], p) := hd
  rcases Go.WideElems.open_map Tryz.underlying135 hd' with ⟨_, hx⟩ | ⟨b, es, clock, n, _, hcs, hb, _, F, hx⟩
  · cases hx
  · simp only [Prod.mk.injEq] at hx
    obtain ⟨hD, _⟩ := hx
    have hc : W.cell? ⟨2, 0, none⟩ = some (.map (some b)) := by
      have := World.var?_cell hg hv 0
      rw [Array.eq_one_of_toList hcs] at this
      simpa using this
    have hbl : b < W.heap.size := (Array.getElem?_eq_some_iff.1 hb).1
    refine ⟨World.block_lt_of_cell? W ⟨2, 0, none⟩ hc, _, hc, fun wr hr => ?_⟩
    have hbr : wr.heap[b]? = some (.map es clock) := by rw [hr.block b hbl]; exact hb
    intro c hk
    rcases hk with rfl | rfl | rfl
    · exact wrd_one hbr F 1 [48] (by decide) (fun zd => by rw [← hD]; rfl)
    · exact wrd_one hbr F 3 [105, 110, 102] (by decide) (fun zd => by rw [← hD]; rfl)
    · exact wrd_one hbr F 4 [110, 97, 110] (by decide) (fun zd => by rw [← hD]; rfl)
end Go.Proofs.YtdlkfnkmdlcekaaGreatDoor
