/- Print: the text of a pattern, walked. Conditions: the variables that values and words read. -/
/- Plain: what Short and Full tell are right digits. Conditions: none. -/
/- Print, PrintFull: walked. Conditions: the variables that values and words read. -/
/- Rows over print: the map of words out of the row's condition; a start that meets it. Conditions: none. -/
/- Chapter 13: of and shown, walked. Conditions: the variables that values and words read. -/
/- Plain, for PrintApart: a magnitude's own number tells it. Conditions: none. -/
import Derived.Test.YtdlkfnkmdlcekaaGreatDoorTp30
import Derived.Test.YtdlkfnkmdlcekaaGreatDoorTp17
import Derived.Test.YtdlkfnkmdlcekaaGreatDoorTp22
namespace Go.Proofs.YtdlkfnkmdlcekaaGreatDoor
open Go.RowKit Go.Cal
/-- What is not told in digits. -/
def wrdT (c : Int) : List UInt8 := if c = 1 then [48] else if c = 3 then [105, 110, 102] else [110, 97, 110]
/-- The table of words stands in its variable. -/
def WrdW (w : World) : Prop := 2 < w.heap.size ∧ ∃ mv, w.cell? ⟨2, 0, none⟩ = some mv ∧ ∀ wr, Below w.heap.size w wr → ∀ c : Int, (c = 1 ∨ c = 3 ∨ c = 4) → (Instr.lookup 135 mv (.int .i64 c) false).run Tryz.prog wr = .ok (.string (strL (wrdT c))) wr
theorem WrdW.below {w w' : World} (h : WrdW w) (hb : Below w.heap.size w w') : WrdW w' := by
  obtain ⟨h1, mv, h2, h3⟩ := h
  exact ⟨Nat.lt_of_lt_of_le h1 hb.size, mv, by rw [(bcell hb).1 _ _ h1]; exact h2, fun wr hr => h3 wr (hb.trans (hr.mono hb.size))⟩
theorem WrdW.out {w : World} (h : WrdW w) {c : Int} (hc : c = 1 ∨ c = 3 ∨ c = 4) : 2 < w.heap.size ∧ ∃ mv, w.cell? ⟨2, 0, none⟩ = some mv ∧ ∀ wr, Below w.heap.size w wr → (Instr.lookup 135 mv (.int .i64 c) false).run Tryz.prog wr = .ok (.string (strL (wrdT c))) wr := by
  obtain ⟨h1, mv, h2, h3⟩ := h
  exact ⟨h1, mv, h2, fun wr hr => h3 wr hr c hc⟩
/-- The variables that print reads. -/
structure PrW (w : World) : Prop where
  va : VaW w
  tab : Tab10 w
  wrd : WrdW w
theorem PrW.below {w w' : World} (h : PrW w) (hb : Below w.heap.size w w') : PrW w' := ⟨h.va.below hb, h.tab.below hb, h.wrd.below hb⟩
theorem right_lt {N : Nat} {k : Int} (h : DRight N k) : N < 18446744073709551616 ^ 128 := by
  rcases h with ⟨rfl, _⟩ | ⟨_, _, h, _⟩
  · exact Nat.pow_pos (by decide)
  · have h1 := numV_lt (Lib.decDigits N) (dec_digs _)
    rw [numV_dec] at h1
    exact Nat.lt_of_lt_of_le (lt_powF h1 h) (by decide +kernel)
set_option maxRecDepth 100000 in
set_option maxHeartbeats 4000000 in
theorem told_no (k : Nat) (id p : Int) (hp0 : 0 ≤ p) (hp1 : p < 18446744073709551616) (hf : fitsV id p ≠ 0) (w : World) (hW : PrW w) :
    Calls Tryz.prog 40 #[.int .i64 id, .int .u64 p, .func (.func k) #[] #[]] w fun e w' => e = .returned (.tuple #[.string (strL []), .int .i64 (fitsV id p)]) ∧ Below w.heap.size w w' := by
  have hdc := Lib.hid fun w (hW : PrW w) => vdec_no id p hp0 hp1 hf w hW.va
  have hff : (fitsV id p != 0) = true := by simp [hf]
  generalize fitsV id p = E at hdc hff ⊢
  clear hf
  go_enter Tryz.func40, Tryz.ntmps40
  go_wp2_with fail
  refine (hdc.out _ hW).mono ?_
  rintro e w1 ⟨rfl, hb⟩
  go_wp2_with fail
  go_ret2
  exact ⟨(by first | rfl | trivial), hb.alloc hb.size _⟩
set_option maxRecDepth 100000 in
set_option maxHeartbeats 4000000 in
theorem told_fin_short {id p : Int} {ng : Bool} {K mv : Nat} {ev : Int} (h : Fin id p ng K mv ev) (w : World) (hW : PrW w) (r : Nat × Int) (hr : shortV (limV id ng K) mv ev 2000 = r) (hR : DRight r.1 r.2) :
    Calls Tryz.prog 40 #[.int .i64 id, .int .u64 p, .func (.func 69) #[] #[]] w fun e w' => e = .returned (.tuple #[.string (strL (lyT ng r.1 r.2)), .int .i64 0]) ∧ Below w.heap.size w w' := by
  obtain ⟨d1, d2, d3⟩ := h.dec
  have hdc := Lib.hid fun w (hW : PrW w) => vdec_yes id p h.h1 h.h2 h.p0 h.p1 w hW.va
  rw [d1, d2, d3, h.cl] at hdc
  have hsh := Lib.hid fun w (hW : PrW w) => short_yes h w hW.va 2000 (by decide) (by decide) 13000 (by decide) (by decide)
  rw [hr] at hsh
  clear d1 d2 d3 hr h
  obtain ⟨D, E⟩ := r
  go_enter Tryz.func40, Tryz.ntmps40
  go_wp2_with fail
  refine (hdc.out _ hW).mono ?_
  rintro e w1 ⟨rfl, hb⟩
  go_wp2_with fail
  have hB1 : Below w.heap.size w (w1.alloc (.cells #[.int .i64 2, .bool ng, .int .u64 (mv : Nat), .int .i64 ev] 25)) := hb.alloc hb.size _
  refine (hsh.out _ (hW.below hB1)).mono ?_
  rintro e w2 ⟨A, n, c, rfl, hv, hb2⟩
  have hB2 := hB1.trans (hb2.mono hB1.size)
  clear hb hb2
  go_wp2_with fail
  have hB3 : Below w.heap.size w (w2.alloc (.cells #[.bool ng, .slice A n c, .int .i64 E] 72)) := hB2.alloc hB2.size _
  have hv3 := isT_fitX (hv.below ((Below.refl _ _).alloc (Nat.le_refl _) (.cells #[.bool ng, .slice A n c, .int .i64 E] 72))) (right_lt hR)
  refine (layout_any ng E (hW.tab.below hB3) hv3).mono ?_
  rintro e w4 ⟨rfl, hb4⟩
  go_wp2_with fail
  go_ret2
  refine ⟨?_, hB3.trans (hb4.mono hB3.size)⟩
  unfold lyR
  rw [if_pos hR]
  rfl
set_option maxRecDepth 100000 in
set_option maxHeartbeats 4000000 in
theorem told_fin_full {id p : Int} {ng : Bool} {K mv : Nat} {ev : Int} (h : Fin id p ng K mv ev) (w : World) (hW : PrW w) (r : Nat × Int) (hr : fullV mv ev 2000 = r) (hR : DRight r.1 r.2) :
    Calls Tryz.prog 40 #[.int .i64 id, .int .u64 p, .func (.func 41) #[] #[]] w fun e w' => e = .returned (.tuple #[.string (strL (lyT ng r.1 r.2)), .int .i64 0]) ∧ Below w.heap.size w w' := by
  obtain ⟨d1, d2, d3⟩ := h.dec
  have hdc := Lib.hid fun w (hW : PrW w) => vdec_yes id p h.h1 h.h2 h.p0 h.p1 w hW.va
  rw [d1, d2, d3, h.cl] at hdc
  have hsh := Lib.hid fun w (hW : PrW w) => full_yes h w hW.va 2000 (by decide) (by decide)
  rw [hr] at hsh
  clear d1 d2 d3 hr h
  obtain ⟨D, E⟩ := r
  go_enter Tryz.func40, Tryz.ntmps40
  go_wp2_with fail
  refine (hdc.out _ hW).mono ?_
  rintro e w1 ⟨rfl, hb⟩
  go_wp2_with fail
  have hB1 : Below w.heap.size w (w1.alloc (.cells #[.int .i64 2, .bool ng, .int .u64 (mv : Nat), .int .i64 ev] 25)) := hb.alloc hb.size _
  refine (hsh.out _ (hW.below hB1)).mono ?_
  rintro e w2 ⟨A, n, c, rfl, hv, hb2⟩
  have hB2 := hB1.trans (hb2.mono hB1.size)
  clear hb hb2
  go_wp2_with fail
  have hB3 : Below w.heap.size w (w2.alloc (.cells #[.bool ng, .slice A n c, .int .i64 E] 72)) := hB2.alloc hB2.size _
  have hv3 := isT_fitX (hv.below ((Below.refl _ _).alloc (Nat.le_refl _) (.cells #[.bool ng, .slice A n c, .int .i64 E] 72))) (right_lt hR)
  refine (layout_any ng E (hW.tab.below hB3) hv3).mono ?_
  rintro e w4 ⟨rfl, hb4⟩
  go_wp2_with fail
  go_ret2
  refine ⟨?_, hB3.trans (hb4.mono hB3.size)⟩
  unfold lyR
  rw [if_pos hR]
  rfl
theorem wrdT_len (c : Int) : (wrdT c).length ≤ 3 := by
  unfold wrdT
  split
  · simp
  · split <;> simp
theorem neg_cat (l : List UInt8) : (⟨#[45]⟩ : ByteArray) ++ strL l = strL (45 :: l) := by
  unfold strL
  refine ByteArray.ext ?_
  simp
/-- The text of what is no number, or 0. -/
def nfT (id p : Int) : List UInt8 := if classV id p = 4 ∧ fK id = 1 then [78, 97, 82] else if decN id p = true then 45 :: wrdT (classV id p) else wrdT (classV id p)
set_option maxRecDepth 100000 in
set_option maxHeartbeats 4000000 in
theorem told_wrd (k : Nat) {id p : Int} (h1 : 1 ≤ id) (h2 : id < 15) (hp0 : 0 ≤ p) (hp1 : p < 2 ^ (fW id).toNat) (hc : classV id p = 1 ∨ classV id p = 3 ∨ classV id p = 4) (w : World) (hW : PrW w) :
    Calls Tryz.prog 40 #[.int .i64 id, .int .u64 p, .func (.func k) #[] #[]] w fun e w' => e = .returned (.tuple #[.string (strL (nfT id p)), .int .i64 0]) ∧ Below w.heap.size w w' := by
  have hdc := Lib.hid fun w (hW : PrW w) => vdec_yes id p h1 h2 hp0 hp1 w hW.va
  have hfo := Lib.hid fun w (hW : PrW w) => fo_of id w hW.va.frm h1 h2
  have hM : decM id p = 0 := by unfold decM; rw [if_neg (by omega)]
  have hE : decE id p = 0 := by unfold decE; rw [if_neg (by omega)]
  rw [hM, hE] at hdc
  unfold nfT
  have hN : classV id p = 4 → decN id p = false := fun h => by unfold decN; rw [if_pos h]
  clear hM hE hp0 hp1
  generalize decN id p = ng at hdc hN ⊢
  generalize classV id p = cc at hdc hc hN ⊢
  clear h1 h2
  generalize fK id = fk at hfo ⊢
  generalize fW id = fw at hfo
  generalize fM id = fm at hfo
  generalize fB id = fb at hfo
  generalize fT id = ft at hfo
  generalize fI id = fi at hfo
  generalize fN id = fn at hfo
  have hcase : ((cc == 4) = false ∧ ng = true) ∨ ((cc == 4) = false ∧ ng = false) ∨ ((cc == 4) = true ∧ ng = false ∧ (fk == 1) = true) ∨ ((cc == 4) = true ∧ ng = false ∧ (fk == 1) = false) := by
    rcases hc with h | h | h
    · cases ng <;> simp [h]
    · cases ng <;> simp [h]
    · have := hN h
      by_cases hk : fk = 1 <;> simp [h, this, hk]
  have hl0 := Lib.hid fun w (hW : WrdW w) => WrdW.out hW hc
  have hc2 : (cc == 2) = false := by
    rcases hc with rfl | rfl | rfl <;> rfl
  clear hc hN
  rcases hcase with ⟨hc4, rfl⟩ | ⟨hc4, rfl⟩ | ⟨hc4, rfl, hk⟩ | ⟨hc4, rfl, hk⟩
  · rw [show (if cc = 4 ∧ fk = 1 then [78, 97, 82] else if true = true then 45 :: wrdT cc else wrdT cc : List UInt8) = 45 :: wrdT cc by simp_all]
    obtain ⟨t, ht⟩ : ∃ t, strL (wrdT cc) = t := ⟨_, rfl⟩
    obtain ⟨u, hu⟩ : ∃ u, strL (45 :: wrdT cc) = u := ⟨_, rfl⟩
    rw [hu]
    have hcat : ⟨#[45]⟩ ++ t = strL (45 :: wrdT cc) := by rw [← ht]; exact neg_cat _
    have hut : ⟨#[45]⟩ ++ t = u := by first | exact hu | (rw [← hu]; rfl) | (rw [← hu, ← ht]; done) | (rw [hcat, ← hu]; done)
    have hts : ¬ 9223372036854775807 < 1 + t.size := by
      rw [← ht, strL_size]
      have := wrdT_len cc
      omega
    clear hcat
    replace hut := Lib.hid hut
    replace hu := Lib.hid hu
    go_enter Tryz.func40, Tryz.ntmps40
    go_wp2_with fail
    refine (hdc.out _ hW).mono ?_
    rintro e w1 ⟨rfl, hb⟩
    go_wp2_with fail
    have hB1 : Below w.heap.size w (w1.alloc (.cells #[.int .i64 cc, .bool true, .int .u64 0, .int .i64 0] 25)) := hb.alloc hb.size _
    refine (hfo.out _ (hW.below hB1)).mono ?_
    rintro e w2 ⟨rfl, hb2⟩
    have hB2 := hB1.trans (hb2.mono hB1.size)
    obtain ⟨hn1, mv, hn2, hn3⟩ := hl0.out _ (hW.wrd.below hB2)
    have hp := pBlk_st _ _ _ _ _ (pBlk_made w1 #[.int .i64 cc, .bool true, .int .u64 0, .int .i64 0] 25) hb2
    have hz : w1.heap.size < w2.heap.size := by have := hb2.size; simp at this; omega
    have hl := hn3 (w2.alloc (.cells #[.int .i64 fk, .int .i64 fw, .int .i64 fm, .int .i64 fb, .int .u64 ft, .int .u64 fi, .int .u64 fn] 39)) ((Below.refl _ _).alloc (Nat.le_refl _) _)
    rw [ht] at hl
    replace ht := Lib.hid ht
    obtain ⟨q0, q1, -, -⟩ := cells4 hp
    clear hn3 hp hb hb2
    go_wp2_with fail
    exact bodyPost_ret (v := .tuple #[.string (⟨#[45]⟩ ++ t), .int .i64 0]) (by simp [results, Tryz.results40, go_sem]) rfl ⟨by rw [hut.out], hB2.alloc hB2.size _⟩
  · rw [show (if cc = 4 ∧ fk = 1 then [78, 97, 82] else if false = true then 45 :: wrdT cc else wrdT cc : List UInt8) = wrdT cc by simp_all]
    obtain ⟨t, ht⟩ : ∃ t, strL (wrdT cc) = t := ⟨_, rfl⟩
    obtain ⟨u, hu⟩ : ∃ u, strL (wrdT cc) = u := ⟨_, rfl⟩
    rw [hu]
    have hcat : ⟨#[45]⟩ ++ t = strL (45 :: wrdT cc) := by rw [← ht]; exact neg_cat _
    have hut : t = u := by first | exact hu | (rw [← hu]; rfl) | (rw [← hu, ← ht]; done) | (rw [hcat, ← hu]; done)
    have hts : ¬ 9223372036854775807 < 1 + t.size := by
      rw [← ht, strL_size]
      have := wrdT_len cc
      omega
    clear hcat
    replace hut := Lib.hid hut
    replace hu := Lib.hid hu
    go_enter Tryz.func40, Tryz.ntmps40
    go_wp2_with fail
    refine (hdc.out _ hW).mono ?_
    rintro e w1 ⟨rfl, hb⟩
    go_wp2_with fail
    have hB1 : Below w.heap.size w (w1.alloc (.cells #[.int .i64 cc, .bool false, .int .u64 0, .int .i64 0] 25)) := hb.alloc hb.size _
    refine (hfo.out _ (hW.below hB1)).mono ?_
    rintro e w2 ⟨rfl, hb2⟩
    have hB2 := hB1.trans (hb2.mono hB1.size)
    obtain ⟨hn1, mv, hn2, hn3⟩ := hl0.out _ (hW.wrd.below hB2)
    have hp := pBlk_st _ _ _ _ _ (pBlk_made w1 #[.int .i64 cc, .bool false, .int .u64 0, .int .i64 0] 25) hb2
    have hz : w1.heap.size < w2.heap.size := by have := hb2.size; simp at this; omega
    have hl := hn3 (w2.alloc (.cells #[.int .i64 fk, .int .i64 fw, .int .i64 fm, .int .i64 fb, .int .u64 ft, .int .u64 fi, .int .u64 fn] 39)) ((Below.refl _ _).alloc (Nat.le_refl _) _)
    rw [ht] at hl
    replace ht := Lib.hid ht
    obtain ⟨q0, q1, -, -⟩ := cells4 hp
    clear hn3 hp hb hb2
    go_wp2_with fail
    exact bodyPost_ret (v := .tuple #[.string (t), .int .i64 0]) (by simp [results, Tryz.results40, go_sem]) rfl ⟨by rw [hut.out], hB2.alloc hB2.size _⟩
  · rw [show (if cc = 4 ∧ fk = 1 then [78, 97, 82] else if false = true then 45 :: wrdT cc else wrdT cc : List UInt8) = [78, 97, 82] by simp_all]
    obtain ⟨t, ht⟩ : ∃ t, strL (wrdT cc) = t := ⟨_, rfl⟩
    obtain ⟨u, hu⟩ : ∃ u, strL ([78, 97, 82]) = u := ⟨_, rfl⟩
    rw [hu]
    have hcat : ⟨#[45]⟩ ++ t = strL (45 :: wrdT cc) := by rw [← ht]; exact neg_cat _
    have hut : ⟨#[78, 97, 82]⟩ = u := by first | exact hu | (rw [← hu]; rfl) | (rw [← hu, ← ht]; done) | (rw [hcat, ← hu]; done)
    have hts : ¬ 9223372036854775807 < 1 + t.size := by
      rw [← ht, strL_size]
      have := wrdT_len cc
      omega
    clear hcat
    replace hut := Lib.hid hut
    replace hu := Lib.hid hu
    go_enter Tryz.func40, Tryz.ntmps40
    go_wp2_with fail
    refine (hdc.out _ hW).mono ?_
    rintro e w1 ⟨rfl, hb⟩
    go_wp2_with fail
    have hB1 : Below w.heap.size w (w1.alloc (.cells #[.int .i64 cc, .bool false, .int .u64 0, .int .i64 0] 25)) := hb.alloc hb.size _
    refine (hfo.out _ (hW.below hB1)).mono ?_
    rintro e w2 ⟨rfl, hb2⟩
    have hB2 := hB1.trans (hb2.mono hB1.size)
    obtain ⟨hn1, mv, hn2, hn3⟩ := hl0.out _ (hW.wrd.below hB2)
    have hp := pBlk_st _ _ _ _ _ (pBlk_made w1 #[.int .i64 cc, .bool false, .int .u64 0, .int .i64 0] 25) hb2
    have hz : w1.heap.size < w2.heap.size := by have := hb2.size; simp at this; omega
    have hl := hn3 (w2.alloc (.cells #[.int .i64 fk, .int .i64 fw, .int .i64 fm, .int .i64 fb, .int .u64 ft, .int .u64 fi, .int .u64 fn] 39)) ((Below.refl _ _).alloc (Nat.le_refl _) _)
    rw [ht] at hl
    replace ht := Lib.hid ht
    obtain ⟨q0, q1, -, -⟩ := cells4 hp
    clear hn3 hp hb hb2
    go_wp2_with fail
    exact bodyPost_ret (v := .tuple #[.string (⟨#[78, 97, 82]⟩), .int .i64 0]) (by simp [results, Tryz.results40, go_sem]) rfl ⟨by rw [hut.out], hB2.alloc hB2.size _⟩
  · rw [show (if cc = 4 ∧ fk = 1 then [78, 97, 82] else if false = true then 45 :: wrdT cc else wrdT cc : List UInt8) = wrdT cc by simp_all]
    obtain ⟨t, ht⟩ : ∃ t, strL (wrdT cc) = t := ⟨_, rfl⟩
    obtain ⟨u, hu⟩ : ∃ u, strL (wrdT cc) = u := ⟨_, rfl⟩
    rw [hu]
    have hcat : ⟨#[45]⟩ ++ t = strL (45 :: wrdT cc) := by rw [← ht]; exact neg_cat _
    have hut : t = u := by first | exact hu | (rw [← hu]; rfl) | (rw [← hu, ← ht]; done) | (rw [hcat, ← hu]; done)
    have hts : ¬ 9223372036854775807 < 1 + t.size := by
      rw [← ht, strL_size]
      have := wrdT_len cc
      omega
    clear hcat
    replace hut := Lib.hid hut
    replace hu := Lib.hid hu
    go_enter Tryz.func40, Tryz.ntmps40
    go_wp2_with fail
    refine (hdc.out _ hW).mono ?_
    rintro e w1 ⟨rfl, hb⟩
    go_wp2_with fail
    have hB1 : Below w.heap.size w (w1.alloc (.cells #[.int .i64 cc, .bool false, .int .u64 0, .int .i64 0] 25)) := hb.alloc hb.size _
    refine (hfo.out _ (hW.below hB1)).mono ?_
    rintro e w2 ⟨rfl, hb2⟩
    have hB2 := hB1.trans (hb2.mono hB1.size)
    obtain ⟨hn1, mv, hn2, hn3⟩ := hl0.out _ (hW.wrd.below hB2)
    have hp := pBlk_st _ _ _ _ _ (pBlk_made w1 #[.int .i64 cc, .bool false, .int .u64 0, .int .i64 0] 25) hb2
    have hz : w1.heap.size < w2.heap.size := by have := hb2.size; simp at this; omega
    have hl := hn3 (w2.alloc (.cells #[.int .i64 fk, .int .i64 fw, .int .i64 fm, .int .i64 fb, .int .u64 ft, .int .u64 fi, .int .u64 fn] 39)) ((Below.refl _ _).alloc (Nat.le_refl _) _)
    rw [ht] at hl
    replace ht := Lib.hid ht
    obtain ⟨q0, q1, -, -⟩ := cells4 hp
    clear hn3 hp hb hb2
    go_wp2_with fail
    exact bodyPost_ret (v := .tuple #[.string (t), .int .i64 0]) (by simp [results, Tryz.results40, go_sem]) rfl ⟨by rw [hut.out], hB2.alloc hB2.size _⟩
end Go.Proofs.YtdlkfnkmdlcekaaGreatDoor
namespace Go.Proofs.YtdlkfnkmdlcekaaGreatDoor
open Go.RowKit Go.Cal
theorem Fin.lims {id p : Int} {ng : Bool} {K mv : Nat} {ev : Int} (h : Fin id p ng K mv ev) : mostE id ng = 0 ∧ (K : Int) ≤ mostV id ng ∧ (fK id ≠ 4 → 0 < K) ∧ (K : Int) ≤ fitM id := by
  obtain ⟨x1, x2, x3, x4⟩ := class_two h.h1 h.h2 h.p0 h.p1 h.cl
  rw [h.key] at x1 x2 x3
  rw [h.ng] at x2 x4
  refine ⟨?_, x2, fun h4 => by have := x3 h4; omega, x1⟩
  have a1 := h.h1
  have a2 := h.h2
  unfold mostE
  rw [if_neg (by omega), if_neg (fun h => x4 h.1 h.2)]
/-- Where the search stands still, and what Short makes of it. -/
theorem short_some {id p : Int} {ng : Bool} {K mv : Nat} {ev : Int} (h : Fin id p ng K mv ev) :
    ∃ (d : Nat) (k : Int), itvHas (limV id ng K) d k = true ∧ (d = flQ mv ev k ∨ (d = flQ mv ev k + 1 ∧ 0 < flR mv ev k)) ∧ min ev 0 ≤ k ∧ k ≤ 700 ∧ d ≤ hasM mv ev + 1 ∧
      ∀ F, hasM mv ev + 1 < 10 ^ F → ∃ z : Nat, shortV (limV id ng K) mv ev F = (d / 10 ^ z, k + z) ∧ d / 10 ^ z * 10 ^ z = d ∧ d / 10 ^ z % 10 ≠ 0 ∧ z < F := by
  obtain ⟨hE, x2, hK0, -⟩ := h.lims
  obtain ⟨b1, b2, b3, b4⟩ := h.bnd
  have hns := nig_some hE x2 hK0 h.mag
  have hlb := lgV_bnd b1 (by simpa using b2) ⟨b3, b4⟩
  have hlb2 := lgV_ge b1 (by simpa using b2) ⟨b3, b4⟩
  obtain ⟨d, k, e1, e2, e3, e4⟩ := seekV_is 3000 (lgV mv ev) (min ev 0) (by omega) (by decide) hns
  obtain ⟨n1, n2⟩ := nearV_some e2
  have hk : min ev 0 ≤ k := by omega
  have hq := flQ_le (m := mv) (e := ev) hk
  have hd : d ≤ hasM mv ev + 1 := by
    rcases n2 with rfl | ⟨rfl, _⟩
    · omega
    · omega
  refine ⟨d, k, n1, n2, hk, by omega, hd, fun F hF => ?_⟩
  obtain ⟨z, z1, z2, z3, z4⟩ := stripV_is F d k (itv_pos n1) (by omega)
  refine ⟨z, ?_, z2, z3, z4⟩
  unfold shortV
  rw [e1]
  exact z1
theorem right_of {d z : Nat} {k : Int} (h2 : d / 10 ^ z % 10 ≠ 0) (h3 : d < 10 ^ 2000) (hz : z < 2000) (hk : -2000 ≤ k ∧ k ≤ 700) : DRight (d / 10 ^ z) (k + z) := by
  refine .inr ⟨?_, h2, ?_, by omega, by omega⟩
  · rcases Nat.eq_zero_or_pos (d / 10 ^ z) with h | h
    · rw [h] at h2; omega
    · exact h
  · exact (padd_dec 2000 _ (by decide) (Nat.lt_of_le_of_lt (Nat.div_le_self _ _) h3)).2
theorem short_right {id p : Int} {ng : Bool} {K mv : Nat} {ev : Int} (h : Fin id p ng K mv ev) : DRight (shortV (limV id ng K) mv ev 2000).1 (shortV (limV id ng K) mv ev 2000).2 := by
  obtain ⟨b1, b2, b3, b4⟩ := h.bnd
  obtain ⟨d, k, n1, n2, n3, n4, n5, n6⟩ := short_some h
  have hM := (hasM_bnd b2 ⟨b3, b4⟩ (show 1991 ≤ 2000 by decide)).1
  obtain ⟨z, z1, z2, z3, z4⟩ := n6 2000 hM
  rw [z1]
  exact right_of z3 (Nat.lt_of_le_of_lt n5 hM) z4 ⟨by omega, n4⟩
theorem full_right {id p : Int} {ng : Bool} {K mv : Nat} {ev : Int} (h : Fin id p ng K mv ev) : DRight (fullV mv ev 2000).1 (fullV mv ev 2000).2 := by
  obtain ⟨b1, b2, b3, b4⟩ := h.bnd
  have hM := (hasM_bnd b2 ⟨b3, b4⟩ (show 1991 ≤ 2000 by decide)).1
  have hM1 : hasM mv ev < 10 ^ 2000 := Nat.lt_of_succ_lt hM
  obtain ⟨z, z1, z2, z3, z4⟩ := stripV_is 2000 (hasM mv ev) (hasK ev) (hasM_pos b1) hM1
  unfold fullV
  rw [z1]
  refine right_of z3 hM1 z4 ?_
  unfold hasK
  split
  · decide
  · omega
end Go.Proofs.YtdlkfnkmdlcekaaGreatDoor
namespace Go.Proofs.YtdlkfnkmdlcekaaGreatDoor
open Go.RowKit Go.Cal
/-- A pattern's magnitude and what its number is, as Short and Full read them. -/
def priK (id p : Int) : Nat := (partK id p).toNat
/-- The shortest digits of a pattern, and all. -/
def shoD (id p : Int) : Nat × Int := shortV (limV id (partN id p) (priK id p)) (decM id p) (decE id p) 2000
def fulD (id p : Int) : Nat × Int := fullV (decM id p) (decE id p) 2000
/-- The text of a pattern. -/
def priT (id p : Int) : List UInt8 := if fitsV id p ≠ 0 then [] else if classV id p = 2 then lyT (partN id p) (shoD id p).1 (shoD id p).2 else nfT id p
/-- The whole text of a pattern. -/
def fulT (id p : Int) : List UInt8 := if fitsV id p ≠ 0 then [] else if classV id p = 2 then lyT (partN id p) (fulD id p).1 (fulD id p).2 else nfT id p
theorem fits_two {id p : Int} (hf : fitsV id p = 0) : 1 ≤ id ∧ id < 15 ∧ p < 2 ^ (fW id).toNat := by
  unfold fitsV at hf
  split at hf
  · cases hf
  · rename_i h
    split at hf
    · exact ⟨by omega, by omega, by omega⟩
    · cases hf
theorem fin_of {id p : Int} (h1 : 1 ≤ id) (h2 : id < 15) (hp0 : 0 ≤ p) (hp1 : p < 2 ^ (fW id).toNat) (hc : classV id p = 2) : Fin id p (partN id p) (priK id p) (decM id p) (decE id p) := by
  have hk : partK id p = ((priK id p : Nat) : Int) := by
    have := partK_nonneg (id := id) hp0
    unfold priK
    omega
  refine ⟨h1, h2, hp0, hp1, hc, rfl, hk, ?_⟩
  unfold decM decE
  rw [if_pos hc, if_pos hc]
  rfl
theorem class_all (id p : Int) : classV id p = 1 ∨ classV id p = 2 ∨ classV id p = 3 ∨ classV id p = 4 := by
  unfold classV
  repeat' split
  all_goals simp
set_option maxRecDepth 100000 in
set_option maxHeartbeats 4000000 in
theorem print_any (id p : Int) (hp0 : 0 ≤ p) (hp1 : p < 18446744073709551616) (w : World) (hW : PrW w) :
    Calls Tryz.prog 34 #[.int .i64 id, .int .u64 p] w fun e w' => e = .returned (.tuple #[.string (strL (priT id p)), .int .i64 (fitsV id p)]) ∧ Below w.heap.size w w' := by
  by_cases hf : fitsV id p ≠ 0
  · have ht := Lib.hid (told_no 69 id p hp0 hp1 hf w hW)
    have hT : priT id p = [] := by unfold priT; rw [if_pos hf]
    rw [hT]
    clear hf hT hW hp0 hp1
    generalize fitsV id p = E at ht ⊢
    go_enter Tryz.func34, Tryz.ntmps34
    go_wp2_with fail
    refine ht.out.mono ?_
    rintro e w1 ⟨rfl, hb⟩
    go_wp2_with fail
    go_ret2
    exact ⟨(by first | rfl | trivial), hb⟩
  · have hf0 : fitsV id p = 0 := by simpa using hf
    obtain ⟨h1, h2, h3⟩ := fits_two hf0
    rw [hf0]
    by_cases hc : classV id p = 2
    · have hfin := fin_of h1 h2 hp0 h3 hc
      have hT : priT id p = lyT (partN id p) (shoD id p).1 (shoD id p).2 := by unfold priT; rw [if_neg hf, if_pos hc]
      rw [hT]
      have ht := Lib.hid (told_fin_short hfin w hW (shoD id p) rfl (short_right hfin))
      clear hf hf0 hT hW hp0 hp1 h1 h2 h3 hc hfin
      generalize lyT (partN id p) (shoD id p).1 (shoD id p).2 = S at ht ⊢
      go_enter Tryz.func34, Tryz.ntmps34
      go_wp2_with fail
      refine ht.out.mono ?_
      rintro e w1 ⟨rfl, hb⟩
      go_wp2_with fail
      go_ret2
      exact ⟨(by first | rfl | trivial), hb⟩
    · have hT : priT id p = nfT id p := by unfold priT; rw [if_neg hf, if_neg hc]
      rw [hT]
      have ht := Lib.hid (told_wrd 69 h1 h2 hp0 h3 (by rcases class_all id p with h | h | h | h <;> simp_all) w hW)
      clear hf hf0 hT hW hp0 hp1 h1 h2 h3 hc
      generalize nfT id p = S at ht ⊢
      go_enter Tryz.func34, Tryz.ntmps34
      go_wp2_with fail
      refine ht.out.mono ?_
      rintro e w1 ⟨rfl, hb⟩
      go_wp2_with fail
      go_ret2
      exact ⟨(by first | rfl | trivial), hb⟩
set_option maxRecDepth 100000 in
set_option maxHeartbeats 4000000 in
theorem pfull_any (id p : Int) (hp0 : 0 ≤ p) (hp1 : p < 18446744073709551616) (w : World) (hW : PrW w) :
    Calls Tryz.prog 16 #[.int .i64 id, .int .u64 p] w fun e w' => e = .returned (.tuple #[.string (strL (fulT id p)), .int .i64 (fitsV id p)]) ∧ Below w.heap.size w w' := by
  by_cases hf : fitsV id p ≠ 0
  · have ht := Lib.hid (told_no 41 id p hp0 hp1 hf w hW)
    have hT : fulT id p = [] := by unfold fulT; rw [if_pos hf]
    rw [hT]
    clear hf hT hW hp0 hp1
    generalize fitsV id p = E at ht ⊢
    go_enter Tryz.func16, Tryz.ntmps16
    go_wp2_with fail
    refine ht.out.mono ?_
    rintro e w1 ⟨rfl, hb⟩
    go_wp2_with fail
    go_ret2
    exact ⟨(by first | rfl | trivial), hb⟩
  · have hf0 : fitsV id p = 0 := by simpa using hf
    obtain ⟨h1, h2, h3⟩ := fits_two hf0
    rw [hf0]
    by_cases hc : classV id p = 2
    · have hfin := fin_of h1 h2 hp0 h3 hc
      have hT : fulT id p = lyT (partN id p) (fulD id p).1 (fulD id p).2 := by unfold fulT; rw [if_neg hf, if_pos hc]
      rw [hT]
      have ht := Lib.hid (told_fin_full hfin w hW (fulD id p) rfl (full_right hfin))
      clear hf hf0 hT hW hp0 hp1 h1 h2 h3 hc hfin
      generalize lyT (partN id p) (fulD id p).1 (fulD id p).2 = S at ht ⊢
      go_enter Tryz.func16, Tryz.ntmps16
      go_wp2_with fail
      refine ht.out.mono ?_
      rintro e w1 ⟨rfl, hb⟩
      go_wp2_with fail
      go_ret2
      exact ⟨(by first | rfl | trivial), hb⟩
    · have hT : fulT id p = nfT id p := by unfold fulT; rw [if_neg hf, if_neg hc]
      rw [hT]
      have ht := Lib.hid (told_wrd 41 h1 h2 hp0 h3 (by rcases class_all id p with h | h | h | h <;> simp_all) w hW)
      clear hf hf0 hT hW hp0 hp1 h1 h2 h3 hc
      generalize nfT id p = S at ht ⊢
      go_enter Tryz.func16, Tryz.ntmps16
      go_wp2_with fail
      refine ht.out.mono ?_
      rintro e w1 ⟨rfl, hb⟩
      go_wp2_with fail
      go_ret2
      exact ⟨(by first | rfl | trivial), hb⟩
end Go.Proofs.YtdlkfnkmdlcekaaGreatDoor
namespace Go.Proofs.YtdlkfnkmdlcekaaGreatDoor
open Go.ChangeShapes Go.WideShapes Go.ChangeAt Go.RowKit Go.Cal Go.Maps
theorem zero_strP (w : World) : (zeroValue 9).run Tryz.prog w = .ok (.string ⟨#[]⟩) w := by kernel_rfl
theorem cells_strP {v : Value} (h : v.formed Tryz.prog 9 = true) : v.cells.toList = [v] := by
  cases v with
  | agg cs => simp [Value.formed, Tryz.underlying9] at h
  | _ => rfl
set_option maxRecDepth 100000 in
theorem wrd_one {W wr : World} {b n : Nat} {es : Array MapEntry} {clock : Nat} (hb : wr.heap[b]? = some (.map es clock)) (F : Go.WideElems.Fit Tryz.prog 3 (Go.WideElems.elemAt (fun _ => ()) Tryz.prog W 0 (fun _ => true) false n 9) es clock) (k : Int) (l : List UInt8) (hwf : (Lit.int .i64 k).wf = true)
    (hD : ∀ zd : DataW Unit, (DataW.map ((es.toList.map (Go.WideElems.rg Tryz.prog 3 (Go.WideElems.elemAt (fun _ => ()) Tryz.prog W 0 (fun _ => true) false n 9))).foldr DataW.insert [])).atKey (.int .i64 k) zd = .lit (.string l)) :
    (Instr.lookup 135 (.map (some b)) (.int .i64 k) false).run Tryz.prog wr = .ok (.string (strL l)) wr := by
  have hkey : keyOf Tryz.prog 3 (.int .i64 k) = some (.int .i64 k) := keyOf_int_mk Tryz.underlying3 hwf
  rcases fit_look false law_int Tryz.underlying135 (zero_strP wr) hb F hkey with ⟨_, _, hz⟩ | ⟨e0, y, _, _, hrun, hR, hy, _⟩
  · have := (hz .nil).symm.trans (hD .nil)
    cases this
  · have h1 : y.1 = .lit (.string l) := (hy .nil).symm.trans (hD .nil)
    unfold Go.WideElems.elemAt at hR
    split at hR
    · rename_i hf
      rw [cells_strP hf] at hR
      obtain ⟨s, hs, hx, _⟩ := DataW.trod_string Tryz.underlying9 hR
      rw [hx] at h1
      have hl : s.data.toList = l := by
        have h2 : (DataW.lit (.string s.data.toList) : DataW Unit) = DataW.lit (.string l) := h1
        injection h2 with h2
        injection h2
      have hv := (List.cons.inj hs).1
      rw [hrun]
      subst hl
      simp [hv, strL]
    · cases hR
theorem wrdW_of_laid {W : World} {laid : List (String × DataW Unit)} (h : laidMet Tryz.prog laid W) (hm : ("caliper/print.words", Rows.laid_caliper_print_words) ∈ laid) : WrdW W := by
  obtain ⟨ps, hl, _⟩ := h
  obtain ⟨g, t, cs, fuel, p, hg, ht, hv, hd⟩ := laidVars_mem hl hm
  obtain rfl := Option.some.inj ((show Tryz.prog.globalNamed "caliper/print.words" = some 2 by kernel_rfl).symm.trans hg)
  obtain rfl := Option.some.inj ((show (Tryz.prog.globals[2]?).map (·.type) = some 135 by kernel_rfl).symm.trans ht)
  have hd' : DataW.trod (fun _ => ()) Tryz.prog W 0 (fun _ => true) false fuel 135 cs.toList = some (.map [(.int .i64 1, .lit (.string [48])), (.int .i64 3, .lit (.string [105, 110, 102])), (.int .i64 4, .lit (.string [110, 97, 110]))], p) := hd
  rcases Go.WideElems.open_map Tryz.underlying135 hd' with ⟨_, hx⟩ | ⟨b, es, clock, n, _, hcs, hb, _, F, hx⟩
  · cases hx
  · simp only [Prod.mk.injEq] at hx
    obtain ⟨hD, _⟩ := hx
    have hc : W.cell? ⟨2, 0, none⟩ = some (.map (some b)) := by
      have := World.var?_cell hg hv 0
      rw [Array.eq_one_of_toList hcs] at this
      simpa using this
    have hbl : b < W.heap.size := (Array.getElem?_eq_some_iff.1 hb).1
    refine ⟨World.block_lt_of_cell? W ⟨2, 0, none⟩ hc, _, hc, fun wr hr => ?_⟩
    have hbr : wr.heap[b]? = some (.map es clock) := by rw [hr.block b hbl]; exact hb
    intro c hk
    rcases hk with rfl | rfl | rfl
    · exact wrd_one hbr F 1 [48] (by decide) (fun zd => by rw [← hD]; rfl)
    · exact wrd_one hbr F 3 [105, 110, 102] (by decide) (fun zd => by rw [← hD]; rfl)
    · exact wrd_one hbr F 4 [110, 97, 110] (by decide) (fun zd => by rw [← hD]; rfl)
end Go.Proofs.YtdlkfnkmdlcekaaGreatDoor
namespace Go.Proofs.YtdlkfnkmdlcekaaGreatDoor
open Go.RowKit Go.Cal
set_option maxRecDepth 100000 in
theorem pof_any (id p : Int) (hp0 : 0 ≤ p) (hp1 : p < 18446744073709551616) (w : World) (hW : PrW w) :
    Calls Tryz.prog 15 #[.int .i64 id, .int .u64 p] w fun e w' => e = .returned (.string (strL (priT id p))) ∧ Below w.heap.size w w' := by
  have ht := Lib.hid (print_any id p hp0 hp1 w hW)
  generalize priT id p = S at ht ⊢
  generalize fitsV id p = E at ht
  clear hp0 hp1 hW
  go_enter Tryz.func15, Tryz.ntmps15
  go_wp2_with fail
  refine ht.out.mono ?_
  rintro e w1 ⟨rfl, hb⟩
  go_wp2_with fail
  go_ret
  exact ⟨rfl, hb⟩
theorem pof_lit {id p : Int} {S : List UInt8} (h : priT id p = S) (hp0 : 0 ≤ p) (hp1 : p < 18446744073709551616) (w : World) (hW : PrW w) :
    Calls Tryz.prog 15 #[.int .i64 id, .int .u64 p] w fun e w' => e = .returned (.string (strL S)) ∧ Below w.heap.size w w' := h ▸ pof_any id p hp0 hp1 w hW
theorem s1 : priT 1 128 = [78, 97, 82] := by decide +kernel
theorem s2 : priT 6 252 = [45, 105, 110, 102] := by decide +kernel
theorem s3 : priT 13 2147483648 = [45, 48] := by decide +kernel
theorem s4 : priT 5 255 = [110, 97, 110] := by decide +kernel
theorem s5 : priT 14 4591870180066957722 = [48, 46, 49] := by decide +kernel
theorem s6 : priT 1 65 = [49, 46, 49] := by decide +kernel
theorem s7 : priT 14 1 = [53, 101, 45, 51, 50, 52] := by decide +kernel
theorem s8 : priT 11 255 = [110, 97, 110] := by decide +kernel
theorem s9 : fulT 12 11878 = [48, 46, 48, 57, 57, 57, 55, 53, 53, 56, 53, 57, 51, 55, 53] := by decide +kernel
theorem print_lit {id p E : Int} {S : List UInt8} (h : priT id p = S) (he : fitsV id p = E) (hp0 : 0 ≤ p) (hp1 : p < 18446744073709551616) (w : World) (hW : PrW w) :
    Calls Tryz.prog 34 #[.int .i64 id, .int .u64 p] w fun e w' => e = .returned (.tuple #[.string (strL S), .int .i64 E]) ∧ Below w.heap.size w w' := h ▸ he ▸ print_any id p hp0 hp1 w hW
theorem pfull_lit {id p E : Int} {S : List UInt8} (h : fulT id p = S) (he : fitsV id p = E) (hp0 : 0 ≤ p) (hp1 : p < 18446744073709551616) (w : World) (hW : PrW w) :
    Calls Tryz.prog 16 #[.int .i64 id, .int .u64 p] w fun e w' => e = .returned (.tuple #[.string (strL S), .int .i64 E]) ∧ Below w.heap.size w w' := h ▸ he ▸ pfull_any id p hp0 hp1 w hW
theorem s10 : priT 0 0 = [] := by decide +kernel
theorem s11 : priT 9 16 = [] := by decide +kernel
theorem s12 : fitsV 0 0 = 3 := by decide +kernel
theorem s13 : fitsV 9 16 = 1 := by decide +kernel
theorem s14 : fitsV 12 11878 = 0 := by decide +kernel
set_option maxRecDepth 100000 in
set_option maxHeartbeats 4000000 in
/-- What must be in any case. -/
theorem rshown_any (w : World) (hW : PrW w) : Calls Tryz.prog 13 #[] w fun e w' => e = .returned (.bool true) ∧ Below w.heap.size w w' := by
  have hL : LiveP w w [] := LiveP.start w
  have e0 : ((strL [78, 97, 82]).toList == [78, 97, 82]) = true := by decide +kernel
  have e1 : ((strL [45, 105, 110, 102]).toList == [45, 105, 110, 102]) = true := by decide +kernel
  have e2 : ((strL [45, 48]).toList == [45, 48]) = true := by decide +kernel
  have e3 : ((strL [110, 97, 110]).toList == [110, 97, 110]) = true := by decide +kernel
  have e4 : ((strL [48, 46, 49]).toList == [48, 46, 49]) = true := by decide +kernel
  have e5 : ((strL [49, 46, 49]).toList == [49, 46, 49]) = true := by decide +kernel
  have e6 : ((strL [53, 101, 45, 51, 50, 52]).toList == [53, 101, 45, 51, 50, 52]) = true := by decide +kernel
  have e7 : ((strL [48, 46, 48, 57, 57, 57, 55, 53, 53, 56, 53, 57, 51, 55, 53]).toList == [48, 46, 48, 57, 57, 57, 55, 53, 53, 56, 53, 57, 51, 55, 53]) = true := by decide +kernel
  go_enter Tryz.func13, Tryz.ntmps13
  go_wp2_with fail
  refine (print_lit s10 s12 (by decide) (by decide) _ (hW.below hL.below)).mono ?_
  rintro e w0 ⟨rfl, hb⟩
  replace hL := hL.go hb
  clear hb
  go_wp2_with fail
  refine (print_lit s11 s13 (by decide) (by decide) _ (hW.below hL.below)).mono ?_
  rintro e w1 ⟨rfl, hb⟩
  replace hL := hL.go hb
  clear hb
  go_wp2_with fail
  refine (pfull_lit s9 s14 (by decide) (by decide) _ (hW.below hL.below)).mono ?_
  rintro e w2 ⟨rfl, hb⟩
  replace hL := hL.go hb
  clear hb
  go_wp2_with fail
  refine (pof_lit s1 (by decide) (by decide) _ (hW.below hL.below)).mono ?_
  rintro e v1 ⟨rfl, hb⟩
  replace hL := hL.go hb
  clear hb
  go_wp2_with fail
  refine (pof_lit s2 (by decide) (by decide) _ (hW.below hL.below)).mono ?_
  rintro e v2 ⟨rfl, hb⟩
  replace hL := hL.go hb
  clear hb
  go_wp2_with fail
  refine (pof_lit s3 (by decide) (by decide) _ (hW.below hL.below)).mono ?_
  rintro e v3 ⟨rfl, hb⟩
  replace hL := hL.go hb
  clear hb
  go_wp2_with fail
  refine (pof_lit s4 (by decide) (by decide) _ (hW.below hL.below)).mono ?_
  rintro e v4 ⟨rfl, hb⟩
  replace hL := hL.go hb
  clear hb
  go_wp2_with fail
  refine (pof_lit s5 (by decide) (by decide) _ (hW.below hL.below)).mono ?_
  rintro e v5 ⟨rfl, hb⟩
  replace hL := hL.go hb
  clear hb
  go_wp2_with fail
  refine (pof_lit s6 (by decide) (by decide) _ (hW.below hL.below)).mono ?_
  rintro e v6 ⟨rfl, hb⟩
  replace hL := hL.go hb
  clear hb
  go_wp2_with fail
  refine (pof_lit s7 (by decide) (by decide) _ (hW.below hL.below)).mono ?_
  rintro e v7 ⟨rfl, hb⟩
  replace hL := hL.go hb
  clear hb
  go_wp2_with fail
  refine (pof_lit s8 (by decide) (by decide) _ (hW.below hL.below)).mono ?_
  rintro e v8 ⟨rfl, hb⟩
  replace hL := hL.go hb
  clear hb
  go_wp2
  go_ret
  exact ⟨rfl, hL.below⟩
end Go.Proofs.YtdlkfnkmdlcekaaGreatDoor
namespace Go.Proofs.YtdlkfnkmdlcekaaGreatDoor
open Go.RowKit Go.Cal
/-- Magnitudes of the same number are the same. -/
theorem mag_inj {id : Int} {K L : Nat} (h1 : 1 ≤ id) (h2 : id < 15) (hK : (K : Int) ≤ fitM id) (hL : (L : Int) ≤ fitM id) (k0 : fK id ≠ 4 → 0 < K) (l0 : fK id ≠ 4 → 0 < L) (h : magV id 0 K = magV id 0 L) : K = L := by
  obtain ⟨-, -, -, -, -, a⟩ := mag_range0 h1 h2 hK k0
  obtain ⟨-, -, -, -, -, b⟩ := mag_range0 h1 h2 hL l0
  rw [h, b] at a
  rcases Nat.lt_trichotomy K L with hlt | heq | hgt
  · have := uN_lt (i := 2 * K) (j := 2 * L) h1 h2 (by omega) (by omega)
    omega
  · exact heq
  · have := uN_lt (i := 2 * L) (j := 2 * K) h1 h2 (by omega) (by omega)
    omega
/-- Equal values of finite patterns: equal digits. -/
theorem val_digits {id p q : Int} (h1 : 1 ≤ id) (h2 : id < 15) (hp0 : 0 ≤ p) (hp1 : p < 2 ^ (fW id).toNat) (hq0 : 0 ≤ q) (hq1 : q < 2 ^ (fW id).toNat) (cp : classV id p = 2) (cq : classV id q = 2)
    (hn : partN id p = partN id q) (hm : decM id p = decM id q) (he : decE id p = decE id q) : shoD id p = shoD id q ∧ fulD id p = fulD id q := by
  have fp := fin_of h1 h2 hp0 hp1 cp
  have fq := fin_of h1 h2 hq0 hq1 cq
  obtain ⟨-, -, p3, p4⟩ := fp.lims
  obtain ⟨-, -, q3, q4⟩ := fq.lims
  have hK : priK id p = priK id q := mag_inj h1 h2 p4 q4 p3 q3 (by rw [fp.mag, fq.mag, hm, he])
  constructor
  · unfold shoD; rw [hK, hn, hm, he]
  · unfold fulD; rw [hm, he]
/-- A number of tens, otherwise written. -/
theorem tens_cross {d z : Nat} {k : Int} (h : d / 10 ^ z * 10 ^ z = d) : exP d k k * exQ (k + z) (k + z) = exP (d / 10 ^ z) (k + z) (k + z) * exQ k k := by
  have c1 := exP_cross d k k (k + z) (k + z)
  have c2 := exP_cross (d / 10 ^ z) (k + z) (k + z) k k
  rw [c1, c2]
  unfold exP
  simp only [show (k - (k + (z : Int))).toNat = 0 by omega, show (k + (z : Int) - k).toNat = z by omega, Nat.pow_zero, Nat.mul_one, Nat.sub_zero]
  rw [show (k + (z : Int)).toNat + (-k).toNat - z = k.toNat + (-(k + (z : Int))).toNat by omega, Nat.mul_assoc (d / 10 ^ z), ← Nat.mul_pow 5 2 z, show (5 * 2 : Nat) = 10 from rfl, h]
theorem lyT_zero (n : Bool) : lyT n 0 0 = if n = true then [45, 48] else [48] := by cases n <;> rfl
theorem lyT_def (neg : Bool) (d : Nat) (k : Int) : lyT neg d k = (if neg = true then [45] else []) ++ lyS d k := rfl
theorem dig_45 : isDig 45 = false := by decide
theorem dig_i : isDig 105 = false := by decide
theorem dig_n : isDig 110 = false := by decide
theorem dig_N : isDig 78 = false := by decide
/-- Equal shortest digits: equal magnitudes. -/
theorem short_inj {id p q : Int} {ng : Bool} {K L m1 m2 : Nat} {e1 e2 : Int} (hp : Fin id p ng K m1 e1) (hq : Fin id q ng L m2 e2)
    (h : shortV (limV id ng K) m1 e1 2000 = shortV (limV id ng L) m2 e2 2000) : K = L := by
  have one : ∀ {p : Int} {K m : Nat} {e : Int}, Fin id p ng K m e → ∀ D X, shortV (limV id ng K) m e 2000 = (D, X) → roundP id 0 ng (exP D X X) (exQ X X) = patV id ng K := by
    intro p K m e hp D X hD
    obtain ⟨b1, b2, b3, b4⟩ := hp.bnd
    obtain ⟨l1, l2, l3, l4⟩ := hp.lims
    obtain ⟨d, k, n1, -, -, -, -, n6⟩ := short_some hp
    obtain ⟨z, z1, z2, -, -⟩ := n6 2000 (hasM_bnd b2 ⟨b3, b4⟩ (show 1991 ≤ 2000 by decide)).1
    rw [z1] at hD
    obtain ⟨rfl, rfl⟩ := Prod.mk.inj hD
    rw [← itv_round (mode := 0) l1 l2 (fun h => l3 (by omega)) n1]
    exact (roundP_cross (exQ_pos _ _) (exQ_pos _ _) (tens_cross z2)).symm
  obtain ⟨⟨D, X⟩, hD⟩ : ∃ d, shortV (limV id ng L) m2 e2 2000 = d := ⟨_, rfl⟩
  have a := one hp D X (h.trans hD)
  have b := one hq D X hD
  rw [a] at b
  obtain ⟨l1, l2, -, -⟩ := hp.lims
  obtain ⟨r1, r2, -, -⟩ := hq.lims
  have c1 := pat_key (neg := ng) l1 (by omega) l2
  have c2 := pat_key (neg := ng) r1 (by omega) r2
  rw [b, c2] at c1
  omega
/-- Equal whole digits: equal magnitudes. -/
theorem full_inj {id p q : Int} {n1 n2 : Bool} {K L m1 m2 : Nat} {e1 e2 : Int} (hp : Fin id p n1 K m1 e1) (hq : Fin id q n2 L m2 e2)
    (h : fullV m1 e1 2000 = fullV m2 e2 2000) : K = L := by
  have one : ∀ {p : Int} {n : Bool} {K m : Nat} {e : Int}, Fin id p n K m e → ∀ D X, fullV m e 2000 = (D, X) → uN (fK id).toNat (fW id).toNat (fM id).toNat (fB id).toNat (2 * K) * exQ X X = exP D X X * sc2 := by
    intro p n K m e hp D X hD
    obtain ⟨b1, b2, b3, b4⟩ := hp.bnd
    obtain ⟨l1, l2, l3, l4⟩ := hp.lims
    obtain ⟨-, -, -, -, a5, a6⟩ := mag_range0 hp.h1 hp.h2 l4 l3
    rw [hp.mag] at a5 a6
    have hs := sc_of a5 a6
    have hM := (hasM_bnd b2 ⟨b3, b4⟩ (show 1991 ≤ 2000 by decide)).1
    obtain ⟨z, z1, z2, -, -⟩ := stripV_is 2000 (hasM m e) (hasK e) (hasM_pos b1) (Nat.lt_of_succ_lt hM)
    unfold fullV at hD
    rw [z1] at hD
    obtain ⟨rfl, rfl⟩ := Prod.mk.inj hD
    have t := tens_cross (k := hasK e) z2
    have c := has_cross m e
    clear hM a6 b2
    generalize uN (fK id).toNat (fW id).toNat (fM id).toNat (fB id).toNat (2 * K) = u at hs ⊢
    generalize exP (hasM m e / 10 ^ z) (hasK e + z) (hasK e + z) = N at t ⊢
    generalize exQ (hasK e + z) (hasK e + z) = Q at t ⊢
    have p1 := exQ_pos (hasK e) (hasK e)
    have p2 := exQ_pos e 0
    generalize exP (hasM m e) (hasK e) (hasK e) = A at t c
    generalize exQ (hasK e) (hasK e) = B at t c p1
    generalize exQ e 0 = C at c hs p2
    generalize exP m e 0 = E at c hs
    generalize sc2 = S at hs ⊢
    refine Nat.eq_of_mul_eq_mul_right (Nat.mul_pos p1 p2) ?_
    calc u * Q * (B * C) = (u * C) * Q * B := by ac_rfl
      _ = (E * S) * Q * B := by rw [hs]
      _ = (E * B) * S * Q := by ac_rfl
      _ = (A * C) * S * Q := by rw [c]
      _ = (A * Q) * S * C := by ac_rfl
      _ = (N * B) * S * C := by rw [t]
      _ = N * S * (B * C) := by ac_rfl
  obtain ⟨⟨D, X⟩, hD⟩ : ∃ d, fullV m2 e2 2000 = d := ⟨_, rfl⟩
  have a := one hp D X (h.trans hD)
  have b := one hq D X hD
  have hu := Nat.eq_of_mul_eq_mul_right (exQ_pos X X) (a.trans b.symm)
  have l4 := hp.lims.2.2.2
  have r4 := hq.lims.2.2.2
  rcases Nat.lt_trichotomy K L with hlt | heq | hgt
  · have := uN_lt (i := 2 * K) (j := 2 * L) hp.h1 hp.h2 (by omega) (by omega)
    omega
  · exact heq
  · have := uN_lt (i := 2 * L) (j := 2 * K) hp.h1 hp.h2 (by omega) (by omega)
    omega
/-- A text of digits is no word. -/
theorem ly_word {n : Bool} {d : Nat} {k : Int} (h : DRight d k) {l : List UInt8} (hl : (∃ c r, l = c :: r ∧ isDig c = false ∧ c ≠ 45) ∨ (∃ c r, l = 45 :: c :: r ∧ isDig c = false)) : lyT n d k ≠ l := by
  obtain ⟨x, y, hs, hx⟩ := lyS_head h
  have h45 := dig_45
  rw [lyT_def, hs]
  rcases hl with ⟨c, r, rfl, hc, hc5⟩ | ⟨c, r, rfl, hc⟩
  · cases n
    · intro he
      have := (List.cons.inj he).1
      subst this
      rw [hx] at hc
      cases hc
    · intro he
      exact hc5 (List.cons.inj he).1.symm
  · cases n
    · intro he
      have := (List.cons.inj he).1
      subst this
      rw [hx] at h45
      cases h45
    · intro he
      have := (List.cons.inj (List.cons.inj he).2).1
      subst this
      rw [hx] at hc
      cases hc
/-- The texts of two patterns: alike just if the values are. T: the digits that are written. -/
theorem texts_one {id p q : Int} (T : Int → Nat × Int) (hp : classV id p = 2 → DRight (T p).1 (T p).2 ∧ (T p).1 ≠ 0) (hq : classV id q = 2 → DRight (T q).1 (T q).2 ∧ (T q).1 ≠ 0)
    (hT : classV id p = 2 → classV id q = 2 → partN id p = partN id q → (T p = T q ↔ (decM id p = decM id q ∧ decE id p = decE id q))) :
    ((if classV id p = 2 then lyT (partN id p) (T p).1 (T p).2 else nfT id p) = (if classV id q = 2 then lyT (partN id q) (T q).1 (T q).2 else nfT id q)) ↔
      (classV id p = classV id q ∧ decN id p = decN id q ∧ decM id p = decM id q ∧ decE id p = decE id q) := by
  have form : ∀ {x : Int}, classV id x = 1 → nfT id x = lyT (partN id x) 0 0 := by
    intro x hx
    rw [lyT_zero]
    unfold nfT decN wrdT
    rw [hx]
    cases partN id x <;> rfl
  have word : ∀ {x : Int}, (classV id x = 3 ∨ classV id x = 4) → (∃ c r, nfT id x = c :: r ∧ isDig c = false ∧ c ≠ 45) ∨ (∃ c r, nfT id x = 45 :: c :: r ∧ isDig c = false) := by
    intro x hx
    unfold nfT decN wrdT
    rcases hx with hx | hx
    · rw [hx]
      cases partN id x
      · exact .inl ⟨_, _, rfl, dig_i, by decide⟩
      · exact .inr ⟨_, _, rfl, dig_i⟩
    · rw [hx]
      by_cases h1 : fK id = 1
      · rw [if_pos ⟨rfl, h1⟩]; exact .inl ⟨_, _, rfl, dig_N, by decide⟩
      · rw [if_neg (fun h => h1 h.2)]; exact .inl ⟨_, _, rfl, dig_n, by decide⟩
  have z0 : DRight 0 0 := .inl ⟨rfl, rfl⟩
  have nn : ∀ {x : Int}, classV id x ≠ 4 → decN id x = partN id x := fun h => by unfold decN; rw [if_neg h]
  have mm : ∀ {x : Int}, classV id x ≠ 2 → decM id x = 0 ∧ decE id x = 0 := fun h => by unfold decM decE; rw [if_neg h, if_neg h]; exact ⟨rfl, rfl⟩
  rcases class_all id p with cp | cp | cp | cp <;> rcases class_all id q with cq | cq | cq | cq
  · rw [if_neg (by omega), if_neg (by omega), form cp, form cq, nn (by omega), nn (by omega), (mm (x := p) (by omega)).1, (mm (x := p) (by omega)).2, (mm (x := q) (by omega)).1, (mm (x := q) (by omega)).2, cp, cq]
    exact ⟨fun h => ⟨rfl, (lyT_inj z0 z0 h).1, rfl, rfl⟩, fun h => by rw [h.2.1]⟩
  · rw [if_neg (by omega), if_pos cq, form cp]
    exact ⟨fun h => absurd (lyT_inj z0 (hq cq).1 h).2.1.symm (hq cq).2, fun h => by omega⟩
  · rw [if_neg (by omega), if_neg (by omega), form cp]
    exact ⟨fun h => absurd h (ly_word z0 (word (.inl cq))), fun h => by omega⟩
  · rw [if_neg (by omega), if_neg (by omega), form cp]
    exact ⟨fun h => absurd h (ly_word z0 (word (.inr cq))), fun h => by omega⟩
  · rw [if_pos cp, if_neg (by omega), form cq]
    exact ⟨fun h => absurd (lyT_inj (hp cp).1 z0 h).2.1 (hp cp).2, fun h => by omega⟩
  · rw [if_pos cp, if_pos cq, nn (by omega), nn (by omega)]
    constructor
    · intro h
      obtain ⟨a, b, c⟩ := lyT_inj (hp cp).1 (hq cq).1 h
      exact ⟨cp.trans cq.symm, a, (hT cp cq a).1 (Prod.ext b c)⟩
    · rintro ⟨-, a, b⟩
      rw [a, (hT cp cq a).2 b]
  · rw [if_pos cp, if_neg (by omega)]
    exact ⟨fun h => absurd h (ly_word (hp cp).1 (word (.inl cq))), fun h => by omega⟩
  · rw [if_pos cp, if_neg (by omega)]
    exact ⟨fun h => absurd h (ly_word (hp cp).1 (word (.inr cq))), fun h => by omega⟩
  · rw [if_neg (by omega), if_neg (by omega), form cq]
    exact ⟨fun h => absurd h.symm (ly_word z0 (word (.inl cp))), fun h => by omega⟩
  · rw [if_neg (by omega), if_pos cq]
    exact ⟨fun h => absurd h.symm (ly_word (hq cq).1 (word (.inl cp))), fun h => by omega⟩
  · rw [if_neg (by omega), if_neg (by omega), nn (by omega), nn (by omega), (mm (x := p) (by omega)).1, (mm (x := p) (by omega)).2, (mm (x := q) (by omega)).1, (mm (x := q) (by omega)).2, cp, cq]
    unfold nfT wrdT
    rw [cp, cq, nn (by omega), nn (by omega)]
    cases partN id p <;> cases partN id q <;> simp
  · rw [if_neg (by omega), if_neg (by omega)]
    unfold nfT wrdT
    rw [cp, cq, nn (x := p) (by omega)]
    by_cases h1 : fK id = 1 <;> cases partN id p <;> simp [h1, decN, cq]
  · rw [if_neg (by omega), if_neg (by omega), form cq]
    exact ⟨fun h => absurd h.symm (ly_word z0 (word (.inr cp))), fun h => by omega⟩
  · rw [if_neg (by omega), if_pos cq]
    exact ⟨fun h => absurd h.symm (ly_word (hq cq).1 (word (.inr cp))), fun h => by omega⟩
  · rw [if_neg (by omega), if_neg (by omega)]
    unfold nfT wrdT
    rw [cp, cq, nn (x := q) (by omega)]
    by_cases h1 : fK id = 1 <;> cases partN id q <;> simp [h1, decN, cp]
  · rw [if_neg (by omega), if_neg (by omega), (mm (x := p) (by omega)).1, (mm (x := p) (by omega)).2, (mm (x := q) (by omega)).1, (mm (x := q) (by omega)).2, cp, cq]
    unfold nfT wrdT decN
    rw [cp, cq]
    simp
/-- Two patterns that fit: the texts, and the whole texts, are alike just if the values are. -/
theorem texts_apart {id p q : Int} (hp0 : 0 ≤ p) (hq0 : 0 ≤ q) (fp : fitsV id p = 0) (fq : fitsV id q = 0) :
    (priT id p = priT id q ↔ (classV id p = classV id q ∧ decN id p = decN id q ∧ decM id p = decM id q ∧ decE id p = decE id q)) ∧
    (fulT id p = fulT id q ↔ (classV id p = classV id q ∧ decN id p = decN id q ∧ decM id p = decM id q ∧ decE id p = decE id q)) := by
  obtain ⟨h1, h2, hp1⟩ := fits_two fp
  obtain ⟨-, -, hq1⟩ := fits_two fq
  have ne0 : ∀ {d : Nat} {k : Int}, DRight d k → d % 10 ≠ 0 → DRight d k ∧ d ≠ 0 := fun h h' => ⟨h, fun h0 => h' (by rw [h0])⟩
  have mag : ∀ {x y : Int}, (fx : Fin id x (partN id x) (priK id x) (decM id x) (decE id x)) → (fy : Fin id y (partN id y) (priK id y) (decM id y) (decE id y)) → priK id x = priK id y → decM id x = decM id y ∧ decE id x = decE id y := by
    intro x y fx fy h
    have a := fx.mag
    rw [h, fy.mag] at a
    exact ⟨(Prod.mk.inj a).1.symm, (Prod.mk.inj a).2.symm⟩
  have sh : ∀ {x : Int}, 0 ≤ x → x < 2 ^ (fW id).toNat → classV id x = 2 → (DRight (shoD id x).1 (shoD id x).2 ∧ (shoD id x).1 ≠ 0) ∧ (DRight (fulD id x).1 (fulD id x).2 ∧ (fulD id x).1 ≠ 0) := by
    intro x h0 hx hc
    have fx := fin_of h1 h2 h0 hx hc
    obtain ⟨b1, b2, b3, b4⟩ := fx.bnd
    have hM := (hasM_bnd b2 ⟨b3, b4⟩ (show 1991 ≤ 2000 by decide)).1
    constructor
    · refine ne0 (short_right fx) ?_
      obtain ⟨d, k, -, -, -, -, -, n6⟩ := short_some fx
      obtain ⟨z, z1, -, z3, -⟩ := n6 2000 hM
      show ((shortV (limV id (partN id x) (priK id x)) (decM id x) (decE id x) 2000).1) % 10 ≠ 0
      rw [z1]
      exact z3
    · refine ne0 (full_right fx) ?_
      obtain ⟨z, z1, -, z3, -⟩ := stripV_is 2000 (hasM (decM id x) (decE id x)) (hasK (decE id x)) (hasM_pos b1) (Nat.lt_of_succ_lt hM)
      show ((fullV (decM id x) (decE id x) 2000).1) % 10 ≠ 0
      unfold fullV
      rw [z1]
      exact z3
  constructor
  · unfold priT
    rw [if_neg (show ¬ fitsV id p ≠ 0 from fun h => h fp), if_neg (show ¬ fitsV id q ≠ 0 from fun h => h fq)]
    refine texts_one (shoD id) (fun c => (sh hp0 hp1 c).1) (fun c => (sh hq0 hq1 c).1) fun cp cq hn => ⟨fun h => ?_, fun h => (val_digits h1 h2 hp0 hp1 hq0 hq1 cp cq hn h.1 h.2).1⟩
    have fx := fin_of h1 h2 hp0 hp1 cp
    have fy := fin_of h1 h2 hq0 hq1 cq
    refine mag fx fy ?_
    rw [← hn] at fy
    unfold shoD at h
    rw [← hn] at h
    exact short_inj fx fy h
  · unfold fulT
    rw [if_neg (show ¬ fitsV id p ≠ 0 from fun h => h fp), if_neg (show ¬ fitsV id q ≠ 0 from fun h => h fq)]
    refine texts_one (fulD id) (fun c => (sh hp0 hp1 c).2) (fun c => (sh hq0 hq1 c).2) fun cp cq hn => ⟨fun h => ?_, fun h => (val_digits h1 h2 hp0 hp1 hq0 hq1 cp cq hn h.1 h.2).2⟩
    have fx := fin_of h1 h2 hp0 hp1 cp
    have fy := fin_of h1 h2 hq0 hq1 cq
    exact mag fx fy (full_inj fx fy h)
end Go.Proofs.YtdlkfnkmdlcekaaGreatDoor
