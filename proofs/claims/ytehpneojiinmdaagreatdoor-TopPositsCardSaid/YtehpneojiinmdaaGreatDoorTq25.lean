/- Parse, walked: words and numbers. Conditions: the variables that values read. -/
/- Parse, by what it tells. Conditions: the variables that values read. -/
/- What the statements of Parse show in any case. Conditions: the variables that values read. -/
/- The theorems of the whole: what must be in any case. Conditions: the variables that values and words read. -/
/- Exact numbers without twos and fives: Reduced, walked. Conditions: none. -/
/- A pattern in another form: trans, walked. Conditions: the variables that values read. -/
/- A pattern in another form: Turn, walked. Conditions: the variables that values read. -/
/- Chapter 13: of and shown, walked. Conditions: the variables that values and words read. -/
/- Plain: what is printed is parsed as the pattern that stands for it. Conditions: none. -/
/- Plain: posits of twice the width have all numbers of the others. Conditions: none. -/
import Derived.Test.YtehpneojiinmdaaGreatDoorTq24
import Derived.Test.YtehpneojiinmdaaGreatDoorTq14
import Derived.Test.YtehpneojiinmdaaGreatDoorTq18
import Derived.Deep.RegionHeld3
import Derived.Test.YtehpneojiinmdaaGreatDoorTq20
import Derived.Test.YtehpneojiinmdaaGreatDoorTq21
import Derived.Test.YtehpneojiinmdaaGreatDoorTq03
import Derived.Test.YtehpneojiinmdaaGreatDoorTq01
import Derived.Test.YtehpneojiinmdaaGreatDoorTq22
namespace Go.Proofs.YtehpneojiinmdaaGreatDoor
open Go.RowKit Go.Cal
theorem pBlk_cells6 {g : Nat} {a b c d e f : Value} {t : TypeId} {w : World} (hp : pBlk g #[a, b, c, d, e, f] t w) : w.cell? ⟨g, 0, none⟩ = some a ∧ w.cell? ⟨g, 1, none⟩ = some b ∧ w.cell? ⟨g, 2, none⟩ = some c ∧ w.cell? ⟨g, 3, none⟩ = some d ∧ w.cell? ⟨g, 4, none⟩ = some e ∧ w.cell? ⟨g, 5, none⟩ = some f :=
  ⟨hp.cell 0 _ rfl, hp.cell 1 _ rfl, hp.cell 2 _ rfl, hp.cell 3 _ rfl, hp.cell 4 _ rfl, hp.cell 5 _ rfl⟩
theorem number_item {w : World} (it : Cal.Item) (hok : ItemOk it) {A : Option Addr} {n c : Nat} (hv : IsT w (.slice A n c) 2000 it.d) :
    Calls Tryz.prog 91 #[.agg #[.int .i64 (it.kind : Nat), .bool it.neg, .slice A n c, .int .i64 it.k, .int .i64 it.big, .bool it.cut]] w fun e w' => ∃ A5 n5 c5, e = .returned (.agg #[.bool it.neg, .slice A5 n5 c5, .int .i64 (numX it), .int .i64 (numX it)]) ∧ IsT w' (.slice A5 n5 c5) 128 (numN it) ∧ Below w.heap.size w w' := by
  unfold numX numN
  by_cases h : it.big = 0
  · rw [if_pos h, if_pos h, h]
    obtain ⟨a, b, d⟩ := hok.num h
    exact number_near it.kind it.neg it.cut it.k (IsT.isN hv) (by decide) a ⟨b, d⟩
  · rw [if_neg h, if_neg h]
    exact number_far it.kind it.neg it.cut A n c it.k it.big (by rcases hok.big with h1 | h1 | h1; exact absurd h1 h; exact .inl h1; exact .inr h1) w
theorem no_u64 (x : Int) : ∀ y ∈ (#[.int .i64 x] : Array Value).toList, ∀ n, y ≠ .int .u64 n := by simp
set_option maxRecDepth 100000 in
set_option maxHeartbeats 2000000 in
theorem parse_noword (id mode : Int) (l : List UInt8) (hl : l.length ≤ 1099511627776) (h1 : 1 ≤ id) (h2 : id < 15) (hm : ¬ (mode ≠ 1 ∧ mode ≠ 2)) (ht : (textS l).1 = true) (it : Cal.Item) (hitE : textV 1125899906842624 l = it) (hk : (it.kind : Int) = 2 ∨ (it.kind : Int) = 3 ∨ (it.kind : Int) = 4) (hwd : wordB id it.kind it.neg = false) (w : World) (hW : VaW w) :
    Calls Tryz.prog 43 #[.int .i64 id, .int .i64 mode, .string (strL l)] w fun e w' => e = .returned (.tuple #[.int .u64 0, .int .i64 (if it.neg = true then 1 else 0), .int .i64 5]) ∧ Below w.heap.size w w' := by
  have hcv := fun w => run_bytes_of_string (P := Tryz.prog) w 9 61 5 (strL l) sunder_str sunder_bytes sunder_byte
  have hsz := strL_size l
  simp only [hsz] at hcv
  have hk1 : ((it.kind : Int) != 1) = true := by rw [bne_iff_ne]; omega
  have hwn := Lib.hid (fun A n c k big cut w => word_no id h1 h2 it.kind hk it.neg cut A n c k big w hwd)
  clear hwd hk
  obtain ⟨aw, haw⟩ : ∃ x : Int, (if it.neg = true then 1 else 0) = x := ⟨_, rfl⟩
  rw [haw] at hwn ⊢
  clear haw
  rcases mode_two hm with m1 | ⟨m1, m2⟩
  all_goals
    clear hm
    skip
    have hmf : ∀ (fn : Fn) (first cap : Array Value) (w : World), (Instr.makeFunc fn first cap).run Tryz.prog w = .ok (.func fn first cap) w := fun _ _ _ _ => rfl
    have hfo := Lib.hid (fun (W : World) (hW : VaW W) => fo_of id W hW.frm h1 h2)
    have hL := parse_start w
    go_enter_defers Tryz.func43, Tryz.ntmps43
    go_wp2_with fail
    refine (hfo.out _ (hW.below hL.below)).mono ?_
    rintro e u1 ⟨rfl, hb1⟩
    have hF := pBlk_made u1 #[.int .i64 (fK id), .int .i64 (fW id), .int .i64 (fM id), .int .i64 (fB id), .int .u64 (fT id), .int .u64 (fI id), .int .u64 (fN id)] 25
    replace hL := (hL.go hb1).go ((Below.refl _ _).alloc (Nat.le_refl _) (.cells #[.int .i64 (fK id), .int .i64 (fW id), .int .i64 (fM id), .int .i64 (fB id), .int .u64 (fT id), .int .u64 (fI id), .int .u64 (fN id)] 25))
    obtain ⟨c0, c1, c2, f0, f1, f2, hlt⟩ := get_c hL
    go_wp2_with fail
    refine (qmust_yes 0 _).mono ?_
    rintro e u2 ⟨rfl, rfl⟩
    have hgF : w.heap.size + 1 + 1 < u1.heap.size := by
      have := hb1.size
      simp at this
      omega
    replace hL := set_e hL 0
    replace hF := hF.othX (g' := w.heap.size + 1 + 1) (by omega) 0 (.int .i64 0)
    clear c0 c1 c2 f0 f1 f2 hlt hb1
    obtain ⟨W1, hW1⟩ : ∃ W1, ((u1.alloc (.cells #[.int .i64 (fK id), .int .i64 (fW id), .int .i64 (fM id), .int .i64 (fB id), .int .u64 (fT id), .int .u64 (fI id), .int .u64 (fN id)] 25)).setCell ⟨w.heap.size + 1 + 1, 0, none⟩ (.int .i64 0)) = W1 := ⟨_, rfl⟩
    rw [hW1] at hL hF ⊢
    clear hW1
    obtain ⟨gF, hgE⟩ : ∃ g, u1.heap.size = g := ⟨_, rfl⟩
    rw [hgE] at hF hgF ⊢
    clear hgE
    obtain ⟨c0, c1, c2, f0, f1, f2, hlt⟩ := get_c hL
    go_wp2_with fail
    refine (scan_any l _ _ (rd_bytes1 W1 l _ _) hl).mono ?_
    rintro e w2 ⟨hcase, hb⟩
    rcases hcase with ⟨_, v, rfl, hit⟩ | ⟨h0, _⟩
    case inr => rw [ht] at h0; cases h0
    rw [hitE] at hit
    obtain ⟨A3, c3, zs, rfl, r1, r2, r3, r4, r5, -⟩ := hit
    have hv : IsT w2 (.slice A3 zs.length c3) 2000 it.d := ⟨A3, c3, zs, rfl, r1, r2, r3, r4, r5⟩
    clear r1 r2 r3 r4 r5
    obtain ⟨n3, hn3⟩ : ∃ n, zs.length = n := ⟨_, rfl⟩
    rw [hn3] at hv ⊢
    clear hn3
    have hbw : Below W1.heap.size W1 w2 := ((Below.refl _ _).alloc (Nat.le_refl _) _).drew.trans (hb.mono (by simp))
    clear hb
    have hal : Below w2.heap.size w2 (w2.alloc (.cells #[.int .i64 (it.kind : Nat), .bool it.neg, .slice A3 n3 c3, .int .i64 it.k, .int .i64 it.big, .bool it.cut] 145)) := (Below.refl _ _).alloc (Nat.le_refl _) _
    have hI := pBlk_made w2 #[.int .i64 (it.kind : Nat), .bool it.neg, .slice A3 n3 c3, .int .i64 it.k, .int .i64 it.big, .bool it.cut] 145
    replace hF := pBlk_st _ _ _ _ _ (pBlk_st _ _ _ _ _ hF hbw) hal
    replace hv := hv.below hal
    replace hL := (hL.go hbw).go hal
    have hgI : w.heap.size + 1 + 1 < w2.heap.size := by have := hbw.size; omega
    clear c0 c1 c2 f0 f1 f2 hlt hcv hsz hbw hal
    obtain ⟨gI, hgE⟩ : ∃ g, w2.heap.size = g := ⟨_, rfl⟩
    obtain ⟨c0, c1, c2, f0, f1, f2, hlt⟩ := get_c hL
    rw [hgE] at hI hgI
    have hgI' := Lib.hid hgI
    clear hgI
    go_wp2_with fail
    refine (qmust_yes 0 _).mono ?_
    rintro e u4 ⟨rfl, rfl⟩
    have hgI := hgI'.out
    replace hv := (hv.apartX (i := 0) (u := .int .i64 0) (hL.get (P := pBlk (w.heap.size + 1) #[.int .i64 0] 3) (by repeat (first | exact List.mem_cons_self | apply List.mem_cons_of_mem))) (no_u64 _))
    replace hI := hI.othX (g' := w.heap.size + 1) (by omega) 0 (.int .i64 0)
    replace hF := hF.othX (g' := w.heap.size + 1) (by omega) 0 (.int .i64 0)
    replace hL := set_a hL 0
    replace hv := (hv.apartX (i := 0) (u := .int .i64 0) (hL.get (P := pBlk (w.heap.size + 1 + 1) #[.int .i64 0] 26) (by repeat (first | exact List.mem_cons_self | apply List.mem_cons_of_mem))) (no_u64 _))
    replace hI := hI.othX (g' := w.heap.size + 1 + 1) (by omega) 0 (.int .i64 0)
    replace hF := hF.othX (g' := w.heap.size + 1 + 1) (by omega) 0 (.int .i64 0)
    replace hL := set_e hL 0
    clear c0 c1 c2 f0 f1 f2 hlt
    (try rw [hgE])
    obtain ⟨W3, hW3⟩ : ∃ W3, (((w2.alloc (.cells #[.int .i64 (it.kind : Nat), .bool it.neg, .slice A3 n3 c3, .int .i64 it.k, .int .i64 it.big, .bool it.cut] 145)).setCell ⟨w.heap.size + 1, 0, none⟩ (.int .i64 0)).setCell ⟨w.heap.size + 1 + 1, 0, none⟩ (.int .i64 0)) = W3 := ⟨_, rfl⟩
    rw [hW3] at hL hF hI hv ⊢
    clear hW3 hgE hgI'
    obtain ⟨c0, c1, c2, f0, f1, f2, hlt⟩ := get_c hL
    obtain ⟨i0, i1, i2, i3, i4, i5⟩ := pBlk_cells6 hI
    have k0 := hF.cell 0 _ rfl
    have k1 := hF.cell 1 _ rfl
    have k2 := hF.cell 2 _ rfl
    have k3 := hF.cell 3 _ rfl
    have k4 := hF.cell 4 _ rfl
    have k5 := hF.cell 5 _ rfl
    have k6 := hF.cell 6 _ rfl
    go_wp2_with fail
    refine (hwn.out _ _ _ _ _ _ _).mono ?_
    rintro e w4 ⟨rfl, hb4⟩
    replace hL := hL.go hb4
    clear c0 c1 c2 f0 f1 f2 hlt
    have p0 := hL.get (P := pBlk w.heap.size #[.int .u64 0] 22) (by repeat (first | exact List.mem_cons_self | apply List.mem_cons_of_mem))
    have p1 := hL.get (P := pBlk (w.heap.size + 1) #[.int .i64 0] 3) (by repeat (first | exact List.mem_cons_self | apply List.mem_cons_of_mem))
    have p2 := hL.get (P := pBlk (w.heap.size + 1 + 1) #[.int .i64 0] 26) (by repeat (first | exact List.mem_cons_self | apply List.mem_cons_of_mem))
    have hbl := hL.below
    clear hL
    go_wp2
    refine leaves_cons (f := 87) (args := #[.pointer (some ⟨w.heap.size, 0, none⟩), .pointer (some ⟨w.heap.size + 1, 0, none⟩), .pointer (some ⟨w.heap.size + 1 + 1, 0, none⟩)]) (by simp) (by simp [go_sem]) ?_
    refine (qcatch_thrown w.heap.size aw 5 [] _ p0 p1 p2).mono ?_
    rintro e1 u8 w8 ⟨rfl, rfl, pd0, pd1, pd2, hb8⟩
    have y0 := pd0.cell 0 _ rfl
    have y1 := pd1.cell 0 _ rfl
    have y2 := pd2.cell 0 _ rfl
    have hbf := hbl.trans hb8
    clear p0 p1 p2 pd0 pd1 pd2
    simp [Leaves, settle, results, Tryz.results43, go_sem, y0, y1, y2]
    exact hbf
set_option maxRecDepth 100000 in
set_option maxHeartbeats 2000000 in
theorem parse_word (id mode : Int) (l : List UInt8) (hl : l.length ≤ 1099511627776) (h1 : 1 ≤ id) (h2 : id < 15) (hm : ¬ (mode ≠ 1 ∧ mode ≠ 2)) (ht : (textS l).1 = true) (it : Cal.Item) (hitE : textV 1125899906842624 l = it) (hk : (it.kind : Int) = 2 ∨ (it.kind : Int) = 3 ∨ (it.kind : Int) = 4) (hwd : wordB id it.kind it.neg = true) (w : World) (hW : VaW w) :
    Calls Tryz.prog 43 #[.int .i64 id, .int .i64 mode, .string (strL l)] w fun e w' => e = .returned (.tuple #[.int .u64 (wordP id it.kind it.neg), .int .i64 0, .int .i64 0]) ∧ Below w.heap.size w w' := by
  have hcv := fun w => run_bytes_of_string (P := Tryz.prog) w 9 61 5 (strL l) sunder_str sunder_bytes sunder_byte
  have hsz := strL_size l
  simp only [hsz] at hcv
  have hk1 : ((it.kind : Int) != 1) = true := by rw [bne_iff_ne]; omega
  have hwn := Lib.hid (fun A n c k big cut w => word_yes id h1 h2 it.kind hk it.neg cut A n c k big w hwd)
  clear hwd hk
  rcases mode_two hm with m1 | ⟨m1, m2⟩
  all_goals
    clear hm
    skip
    have hmf : ∀ (fn : Fn) (first cap : Array Value) (w : World), (Instr.makeFunc fn first cap).run Tryz.prog w = .ok (.func fn first cap) w := fun _ _ _ _ => rfl
    have hfo := Lib.hid (fun (W : World) (hW : VaW W) => fo_of id W hW.frm h1 h2)
    have hL := parse_start w
    go_enter_defers Tryz.func43, Tryz.ntmps43
    go_wp2_with fail
    refine (hfo.out _ (hW.below hL.below)).mono ?_
    rintro e u1 ⟨rfl, hb1⟩
    have hF := pBlk_made u1 #[.int .i64 (fK id), .int .i64 (fW id), .int .i64 (fM id), .int .i64 (fB id), .int .u64 (fT id), .int .u64 (fI id), .int .u64 (fN id)] 25
    replace hL := (hL.go hb1).go ((Below.refl _ _).alloc (Nat.le_refl _) (.cells #[.int .i64 (fK id), .int .i64 (fW id), .int .i64 (fM id), .int .i64 (fB id), .int .u64 (fT id), .int .u64 (fI id), .int .u64 (fN id)] 25))
    obtain ⟨c0, c1, c2, f0, f1, f2, hlt⟩ := get_c hL
    go_wp2_with fail
    refine (qmust_yes 0 _).mono ?_
    rintro e u2 ⟨rfl, rfl⟩
    have hgF : w.heap.size + 1 + 1 < u1.heap.size := by
      have := hb1.size
      simp at this
      omega
    replace hL := set_e hL 0
    replace hF := hF.othX (g' := w.heap.size + 1 + 1) (by omega) 0 (.int .i64 0)
    clear c0 c1 c2 f0 f1 f2 hlt hb1
    obtain ⟨W1, hW1⟩ : ∃ W1, ((u1.alloc (.cells #[.int .i64 (fK id), .int .i64 (fW id), .int .i64 (fM id), .int .i64 (fB id), .int .u64 (fT id), .int .u64 (fI id), .int .u64 (fN id)] 25)).setCell ⟨w.heap.size + 1 + 1, 0, none⟩ (.int .i64 0)) = W1 := ⟨_, rfl⟩
    rw [hW1] at hL hF ⊢
    clear hW1
    obtain ⟨gF, hgE⟩ : ∃ g, u1.heap.size = g := ⟨_, rfl⟩
    rw [hgE] at hF hgF ⊢
    clear hgE
    obtain ⟨c0, c1, c2, f0, f1, f2, hlt⟩ := get_c hL
    go_wp2_with fail
    refine (scan_any l _ _ (rd_bytes1 W1 l _ _) hl).mono ?_
    rintro e w2 ⟨hcase, hb⟩
    rcases hcase with ⟨_, v, rfl, hit⟩ | ⟨h0, _⟩
    case inr => rw [ht] at h0; cases h0
    rw [hitE] at hit
    obtain ⟨A3, c3, zs, rfl, r1, r2, r3, r4, r5, -⟩ := hit
    have hv : IsT w2 (.slice A3 zs.length c3) 2000 it.d := ⟨A3, c3, zs, rfl, r1, r2, r3, r4, r5⟩
    clear r1 r2 r3 r4 r5
    obtain ⟨n3, hn3⟩ : ∃ n, zs.length = n := ⟨_, rfl⟩
    rw [hn3] at hv ⊢
    clear hn3
    have hbw : Below W1.heap.size W1 w2 := ((Below.refl _ _).alloc (Nat.le_refl _) _).drew.trans (hb.mono (by simp))
    clear hb
    have hal : Below w2.heap.size w2 (w2.alloc (.cells #[.int .i64 (it.kind : Nat), .bool it.neg, .slice A3 n3 c3, .int .i64 it.k, .int .i64 it.big, .bool it.cut] 145)) := (Below.refl _ _).alloc (Nat.le_refl _) _
    have hI := pBlk_made w2 #[.int .i64 (it.kind : Nat), .bool it.neg, .slice A3 n3 c3, .int .i64 it.k, .int .i64 it.big, .bool it.cut] 145
    replace hF := pBlk_st _ _ _ _ _ (pBlk_st _ _ _ _ _ hF hbw) hal
    replace hv := hv.below hal
    replace hL := (hL.go hbw).go hal
    have hgI : w.heap.size + 1 + 1 < w2.heap.size := by have := hbw.size; omega
    clear c0 c1 c2 f0 f1 f2 hlt hcv hsz hbw hal
    obtain ⟨gI, hgE⟩ : ∃ g, w2.heap.size = g := ⟨_, rfl⟩
    obtain ⟨c0, c1, c2, f0, f1, f2, hlt⟩ := get_c hL
    rw [hgE] at hI hgI
    have hgI' := Lib.hid hgI
    clear hgI
    go_wp2_with fail
    refine (qmust_yes 0 _).mono ?_
    rintro e u4 ⟨rfl, rfl⟩
    have hgI := hgI'.out
    replace hv := (hv.apartX (i := 0) (u := .int .i64 0) (hL.get (P := pBlk (w.heap.size + 1) #[.int .i64 0] 3) (by repeat (first | exact List.mem_cons_self | apply List.mem_cons_of_mem))) (no_u64 _))
    replace hI := hI.othX (g' := w.heap.size + 1) (by omega) 0 (.int .i64 0)
    replace hF := hF.othX (g' := w.heap.size + 1) (by omega) 0 (.int .i64 0)
    replace hL := set_a hL 0
    replace hv := (hv.apartX (i := 0) (u := .int .i64 0) (hL.get (P := pBlk (w.heap.size + 1 + 1) #[.int .i64 0] 26) (by repeat (first | exact List.mem_cons_self | apply List.mem_cons_of_mem))) (no_u64 _))
    replace hI := hI.othX (g' := w.heap.size + 1 + 1) (by omega) 0 (.int .i64 0)
    replace hF := hF.othX (g' := w.heap.size + 1 + 1) (by omega) 0 (.int .i64 0)
    replace hL := set_e hL 0
    clear c0 c1 c2 f0 f1 f2 hlt
    (try rw [hgE])
    obtain ⟨W3, hW3⟩ : ∃ W3, (((w2.alloc (.cells #[.int .i64 (it.kind : Nat), .bool it.neg, .slice A3 n3 c3, .int .i64 it.k, .int .i64 it.big, .bool it.cut] 145)).setCell ⟨w.heap.size + 1, 0, none⟩ (.int .i64 0)).setCell ⟨w.heap.size + 1 + 1, 0, none⟩ (.int .i64 0)) = W3 := ⟨_, rfl⟩
    rw [hW3] at hL hF hI hv ⊢
    clear hW3 hgE hgI'
    obtain ⟨c0, c1, c2, f0, f1, f2, hlt⟩ := get_c hL
    obtain ⟨i0, i1, i2, i3, i4, i5⟩ := pBlk_cells6 hI
    have k0 := hF.cell 0 _ rfl
    have k1 := hF.cell 1 _ rfl
    have k2 := hF.cell 2 _ rfl
    have k3 := hF.cell 3 _ rfl
    have k4 := hF.cell 4 _ rfl
    have k5 := hF.cell 5 _ rfl
    have k6 := hF.cell 6 _ rfl
    go_wp2_with fail
    refine (hwn.out _ _ _ _ _ _ _).mono ?_
    rintro e w4 ⟨rfl, hb4⟩
    replace hL := hL.go hb4
    clear c0 c1 c2 f0 f1 f2 hlt
    obtain ⟨c0, c1, c2, f0, f1, f2, hlt⟩ := get_c hL
    have hL4 := set_e (set_a (set_p hL (wordP id it.kind it.neg)) 0) 0
    obtain ⟨d0, d1, d2, -⟩ := get_c hL4
    go_wp2
    show Leaves _ _ _ _ _ .returning _
    refine leaves_cons (f := 87) (args := #[.pointer (some ⟨w.heap.size, 0, none⟩), .pointer (some ⟨w.heap.size + 1, 0, none⟩), .pointer (some ⟨w.heap.size + 1 + 1, 0, none⟩)]) (by simp) (by simp [go_sem]) ?_
    refine (qcatch_idle w.heap.size _).mono ?_
    rintro e1 u8 w8 ⟨rfl, rfl, rfl⟩
    simp [Leaves, settle, results, Tryz.results43, go_sem, d0, d1, d2]
    exact hL4.below
set_option maxRecDepth 100000 in
set_option maxHeartbeats 2000000 in
theorem parse_num (id mode : Int) (l : List UInt8) (hl : l.length ≤ 1099511627776) (h1 : 1 ≤ id) (h2 : id < 15) (hm : ¬ (mode ≠ 1 ∧ mode ≠ 2)) (ht : (textS l).1 = true) (it : Cal.Item) (hitE : textV 1125899906842624 l = it) (hk : it.kind = 1) (hok : ItemOk it) (w : World) (hW : VaW w) :
    Calls Tryz.prog 43 #[.int .i64 id, .int .i64 mode, .string (strL l)] w fun e w' => e = .returned (.tuple #[.int .u64 (roundP id mode it.neg (exP (numN it) (numX it) (numX it)) (exQ (numX it) (numX it))), .int .i64 0, .int .i64 0]) ∧ Below w.heap.size w w' := by
  have hcv := fun w => run_bytes_of_string (P := Tryz.prog) w 9 61 5 (strL l) sunder_str sunder_bytes sunder_byte
  have hsz := strL_size l
  simp only [hsz] at hcv
  have hk1 : ((it.kind : Int) != 1) = false := by rw [hk]; rfl
  have hE : roundE id mode = 0 := by unfold roundE; rw [if_neg (by omega), if_neg hm]
  have hX : -5000 ≤ numX it ∧ numX it ≤ 5000 := by
    unfold numX
    split
    · rename_i hz
      exact (hok.num hz).2
    · rcases hok.big with h | h | h
      · contradiction
      · rw [h]; decide
      · rw [h]; decide
  have hnb := Lib.hid (fun (W : World) A n c (hv : IsT W (.slice A n c) 2000 it.d) => number_item it hok hv)
  have hrd := Lib.hid (fun (W : World) A n c (hW : VaW W) (hv : IsT W (.slice A n c) 128 (numN it)) => rround_any id mode it.neg (numX it) (numX it) hW hv hX hX)
  have hRR : roundR id mode it.neg (exP (numN it) (numX it) (numX it)) (exQ (numX it) (numX it)) = roundP id mode it.neg (exP (numN it) (numX it) (numX it)) (exQ (numX it) (numX it)) := by unfold roundR; rw [if_pos hE]
  rw [hRR, hE] at hrd
  generalize roundP id mode it.neg (exP (numN it) (numX it) (numX it)) (exQ (numX it) (numX it)) = rp at hrd ⊢
  clear hE hRR hX hok
  replace hk := Lib.hid hk
  rcases mode_two hm with m1 | ⟨m1, m2⟩
  all_goals
    clear hm
    skip
    have hmf : ∀ (fn : Fn) (first cap : Array Value) (w : World), (Instr.makeFunc fn first cap).run Tryz.prog w = .ok (.func fn first cap) w := fun _ _ _ _ => rfl
    have hfo := Lib.hid (fun (W : World) (hW : VaW W) => fo_of id W hW.frm h1 h2)
    have hL := parse_start w
    go_enter_defers Tryz.func43, Tryz.ntmps43
    go_wp2_with fail
    refine (hfo.out _ (hW.below hL.below)).mono ?_
    rintro e u1 ⟨rfl, hb1⟩
    have hF := pBlk_made u1 #[.int .i64 (fK id), .int .i64 (fW id), .int .i64 (fM id), .int .i64 (fB id), .int .u64 (fT id), .int .u64 (fI id), .int .u64 (fN id)] 25
    replace hL := (hL.go hb1).go ((Below.refl _ _).alloc (Nat.le_refl _) (.cells #[.int .i64 (fK id), .int .i64 (fW id), .int .i64 (fM id), .int .i64 (fB id), .int .u64 (fT id), .int .u64 (fI id), .int .u64 (fN id)] 25))
    obtain ⟨c0, c1, c2, f0, f1, f2, hlt⟩ := get_c hL
    go_wp2_with fail
    refine (qmust_yes 0 _).mono ?_
    rintro e u2 ⟨rfl, rfl⟩
    have hgF : w.heap.size + 1 + 1 < u1.heap.size := by
      have := hb1.size
      simp at this
      omega
    replace hL := set_e hL 0
    replace hF := hF.othX (g' := w.heap.size + 1 + 1) (by omega) 0 (.int .i64 0)
    clear c0 c1 c2 f0 f1 f2 hlt hb1
    obtain ⟨W1, hW1⟩ : ∃ W1, ((u1.alloc (.cells #[.int .i64 (fK id), .int .i64 (fW id), .int .i64 (fM id), .int .i64 (fB id), .int .u64 (fT id), .int .u64 (fI id), .int .u64 (fN id)] 25)).setCell ⟨w.heap.size + 1 + 1, 0, none⟩ (.int .i64 0)) = W1 := ⟨_, rfl⟩
    rw [hW1] at hL hF ⊢
    clear hW1
    obtain ⟨gF, hgE⟩ : ∃ g, u1.heap.size = g := ⟨_, rfl⟩
    rw [hgE] at hF hgF ⊢
    clear hgE
    obtain ⟨c0, c1, c2, f0, f1, f2, hlt⟩ := get_c hL
    go_wp2_with fail
    refine (scan_any l _ _ (rd_bytes1 W1 l _ _) hl).mono ?_
    rintro e w2 ⟨hcase, hb⟩
    rcases hcase with ⟨_, v, rfl, hit⟩ | ⟨h0, _⟩
    case inr => rw [ht] at h0; cases h0
    rw [hitE] at hit
    obtain ⟨A3, c3, zs, rfl, r1, r2, r3, r4, r5, -⟩ := hit
    have hv : IsT w2 (.slice A3 zs.length c3) 2000 it.d := ⟨A3, c3, zs, rfl, r1, r2, r3, r4, r5⟩
    clear r1 r2 r3 r4 r5
    obtain ⟨n3, hn3⟩ : ∃ n, zs.length = n := ⟨_, rfl⟩
    rw [hn3] at hv ⊢
    clear hn3
    have hbw : Below W1.heap.size W1 w2 := ((Below.refl _ _).alloc (Nat.le_refl _) _).drew.trans (hb.mono (by simp))
    clear hb
    have hal : Below w2.heap.size w2 (w2.alloc (.cells #[.int .i64 (it.kind : Nat), .bool it.neg, .slice A3 n3 c3, .int .i64 it.k, .int .i64 it.big, .bool it.cut] 145)) := (Below.refl _ _).alloc (Nat.le_refl _) _
    have hI := pBlk_made w2 #[.int .i64 (it.kind : Nat), .bool it.neg, .slice A3 n3 c3, .int .i64 it.k, .int .i64 it.big, .bool it.cut] 145
    replace hF := pBlk_st _ _ _ _ _ (pBlk_st _ _ _ _ _ hF hbw) hal
    replace hv := hv.below hal
    replace hL := (hL.go hbw).go hal
    have hgI : w.heap.size + 1 + 1 < w2.heap.size := by have := hbw.size; omega
    clear c0 c1 c2 f0 f1 f2 hlt hcv hsz hbw hal
    obtain ⟨gI, hgE⟩ : ∃ g, w2.heap.size = g := ⟨_, rfl⟩
    obtain ⟨c0, c1, c2, f0, f1, f2, hlt⟩ := get_c hL
    rw [hgE] at hI hgI
    have hgI' := Lib.hid hgI
    clear hgI
    go_wp2_with fail
    refine (qmust_yes 0 _).mono ?_
    rintro e u4 ⟨rfl, rfl⟩
    have hgI := hgI'.out
    replace hv := (hv.apartX (i := 0) (u := .int .i64 0) (hL.get (P := pBlk (w.heap.size + 1) #[.int .i64 0] 3) (by repeat (first | exact List.mem_cons_self | apply List.mem_cons_of_mem))) (no_u64 _))
    replace hI := hI.othX (g' := w.heap.size + 1) (by omega) 0 (.int .i64 0)
    replace hF := hF.othX (g' := w.heap.size + 1) (by omega) 0 (.int .i64 0)
    replace hL := set_a hL 0
    replace hv := (hv.apartX (i := 0) (u := .int .i64 0) (hL.get (P := pBlk (w.heap.size + 1 + 1) #[.int .i64 0] 26) (by repeat (first | exact List.mem_cons_self | apply List.mem_cons_of_mem))) (no_u64 _))
    replace hI := hI.othX (g' := w.heap.size + 1 + 1) (by omega) 0 (.int .i64 0)
    replace hF := hF.othX (g' := w.heap.size + 1 + 1) (by omega) 0 (.int .i64 0)
    replace hL := set_e hL 0
    clear c0 c1 c2 f0 f1 f2 hlt
    (try rw [hgE])
    obtain ⟨W3, hW3⟩ : ∃ W3, (((w2.alloc (.cells #[.int .i64 (it.kind : Nat), .bool it.neg, .slice A3 n3 c3, .int .i64 it.k, .int .i64 it.big, .bool it.cut] 145)).setCell ⟨w.heap.size + 1, 0, none⟩ (.int .i64 0)).setCell ⟨w.heap.size + 1 + 1, 0, none⟩ (.int .i64 0)) = W3 := ⟨_, rfl⟩
    rw [hW3] at hL hF hI hv ⊢
    clear hW3 hgE hgI'
    obtain ⟨c0, c1, c2, f0, f1, f2, hlt⟩ := get_c hL
    obtain ⟨i0, i1, i2, i3, i4, i5⟩ := pBlk_cells6 hI
    have k0 := hF.cell 0 _ rfl
    have k1 := hF.cell 1 _ rfl
    have k2 := hF.cell 2 _ rfl
    have k3 := hF.cell 3 _ rfl
    have k4 := hF.cell 4 _ rfl
    have k5 := hF.cell 5 _ rfl
    have k6 := hF.cell 6 _ rfl
    go_wp2_with fail
    refine (hnb.out _ _ _ _ hv).mono ?_
    rintro e w4 ⟨A5, n5, c5, rfl, hv5, hb4⟩
    replace hL := hL.go hb4
    clear c0 c1 c2 f0 f1 f2 hlt i0 i1 i2 i3 i4 i5 k0 k1 k2 k3 k4 k5 k6 hv hI hF
    obtain ⟨c0, c1, c2, f0, f1, f2, hlt⟩ := get_c hL
    go_wp2_with fail
    refine (hrd.out _ _ _ _ (hW.below hL.below) hv5).mono ?_
    rintro e w5 ⟨rfl, hb5⟩
    replace hL := hL.go hb5
    clear c0 c1 c2 f0 f1 f2 hlt
    obtain ⟨c0, c1, c2, f0, f1, f2, hlt⟩ := get_c hL
    go_wp2_with fail
    refine (qmust_yes 0 _).mono ?_
    rintro e u6 ⟨rfl, rfl⟩
    replace hL := set_e (set_p hL rp) 0
    clear c0 c1 c2 f0 f1 f2 hlt
    obtain ⟨W6, hW6⟩ : ∃ W, ((w5.setCell ⟨w.heap.size, 0, none⟩ (.int .u64 rp)).setCell ⟨w.heap.size + 1 + 1, 0, none⟩ (.int .i64 0)) = W := ⟨_, rfl⟩
    rw [hW6] at hL ⊢
    clear hW6
    obtain ⟨c0, c1, c2, f0, f1, f2, hlt⟩ := get_c hL
    have hL4 := set_e (set_a (set_p hL rp) 0) 0
    obtain ⟨d0, d1, d2, -⟩ := get_c hL4
    go_wp2
    show Leaves _ _ _ _ _ .returning _
    refine leaves_cons (f := 87) (args := #[.pointer (some ⟨w.heap.size, 0, none⟩), .pointer (some ⟨w.heap.size + 1, 0, none⟩), .pointer (some ⟨w.heap.size + 1 + 1, 0, none⟩)]) (by simp) (by simp [go_sem]) ?_
    refine (qcatch_idle w.heap.size _).mono ?_
    rintro e1 u8 w8 ⟨rfl, rfl, rfl⟩
    simp [Leaves, settle, results, Tryz.results43, go_sem, d0, d1, d2]
    exact hL4.below
end Go.Proofs.YtehpneojiinmdaaGreatDoor
namespace Go.Proofs.YtehpneojiinmdaaGreatDoor
open Go.RowKit Go.Cal
theorem ptext_any (id mode : Int) (l : List UInt8) (hl : l.length ≤ 1099511627776) (w : World) (hW : VaW w) :
    Calls Tryz.prog 43 #[.int .i64 id, .int .i64 mode, .string (strL l)] w fun e w' => e = .returned (.tuple #[.int .u64 (parV id mode l).1, .int .i64 (parV id mode l).2.1, .int .i64 (parV id mode l).2.2]) ∧ Below w.heap.size w w' := by
  by_cases hid : id < 1 ∨ 15 ≤ id
  · have hE : roundE id mode = 3 := by unfold roundE; rw [if_pos hid]
    have hV : parV id mode l = (0, 0, 3) := by unfold parV; rw [if_pos (by rw [hE]; decide), hE]
    rw [hV]
    exact parse_form id mode (strL l) hid w
  · have h1 : 1 ≤ id := by omega
    have h2 : id < 15 := by omega
    by_cases hm : mode ≠ 1 ∧ mode ≠ 2
    · have hE : roundE id mode = 1 := by unfold roundE; rw [if_neg hid, if_pos hm]
      have hV : parV id mode l = (0, 0, 1) := by unfold parV; rw [if_pos (by rw [hE]; decide), hE]
      rw [hV]
      exact parse_mode id mode (strL l) h1 h2 (by simp [hm.1]) (by simp [hm.2]) w hW
    · have hE : roundE id mode = 0 := by unfold roundE; rw [if_neg hid, if_neg hm]
      cases ht : (textS l).1 with
      | false =>
        have hV : parV id mode l = (0, (((textS l).2 : Nat) : Int), 2) := by unfold parV; rw [if_neg (by rw [hE]; decide), if_pos ht]
        rw [hV]
        exact parse_bad id mode l hl h1 h2 hm ht w hW
      | true =>
        have hV : parV id mode l = parI id mode (textV 1125899906842624 l) := by unfold parV; rw [if_neg (by rw [hE]; decide), if_neg (by rw [ht]; decide)]
        rw [hV]
        have hit := text_item 1125899906842624 l
        obtain ⟨it, hitE⟩ : ∃ it, textV 1125899906842624 l = it := ⟨_, rfl⟩
        rw [hitE] at hit ⊢
        unfold parI
        rcases hit with ⟨hk, hok⟩ | hk
        · rw [if_pos hk]
          exact parse_num id mode l hl h1 h2 hm ht it hitE hk hok w hW
        · have hk1 : it.kind ≠ 1 := by omega
          rw [if_neg hk1]
          cases hb : wordB id it.kind it.neg with
          | true =>
            rw [if_pos rfl]
            exact parse_word id mode l hl h1 h2 hm ht it hitE (by omega) hb w hW
          | false =>
            rw [if_neg (by decide)]
            exact parse_noword id mode l hl h1 h2 hm ht it hitE (by omega) hb w hW
end Go.Proofs.YtehpneojiinmdaaGreatDoor
namespace Go.Proofs.YtehpneojiinmdaaGreatDoor
open Go.RowKit Go.Cal
theorem ptext_is (id mode : Int) (l : List UInt8) (s : ByteArray) (p a e : Int) (hs : strL l = s) (hl : l.length ≤ 1000) (hv : parV id mode l = (p, a, e)) {w : World} (hW : VaW w) :
    Calls Tryz.prog 43 #[.int .i64 id, .int .i64 mode, .string s] w fun x w' => x = .returned (.tuple #[.int .u64 p, .int .i64 a, .int .i64 e]) ∧ Below w.heap.size w w' := by
  subst hs
  have := ptext_any id mode l (by omega) w hW
  rw [hv] at this
  exact this
end Go.Proofs.YtehpneojiinmdaaGreatDoor
namespace Go.Proofs.YtehpneojiinmdaaGreatDoor
open Go.RowKit Go.Cal
theorem tw1 : parV 14 2 [48, 46, 49] = (4591870180066957722, 0, 0) := by decide +kernel
theorem tw2 : parV 1 1 [45, 49, 101, 57, 57] = (129, 0, 0) := by decide +kernel
theorem tw3 : priT 14 4591870180066957722 = [48, 46, 49] := by decide +kernel
theorem tw4 : fitsV 14 4591870180066957722 = 0 := by decide +kernel
theorem tprint_lit {id p E : Int} {S : List UInt8} (h : priT id p = S) (he : fitsV id p = E) (hp0 : 0 ≤ p) (hp1 : p < 18446744073709551616) (w : World) (hW : PrW w) :
    Calls Tryz.prog 38 #[.int .i64 id, .int .u64 p] w fun e w' => e = .returned (.tuple #[.string (strL S), .int .i64 E]) ∧ Below w.heap.size w w' := h ▸ he ▸ print_any id p hp0 hp1 w hW
set_option maxRecDepth 100000 in
set_option maxHeartbeats 4000000 in
theorem works_any (w : World) (hW : PrW w) : Calls Tryz.prog 10 #[] w fun e w' => e = .returned (.bool true) ∧ Below w.heap.size w w' := by
  have hL := LiveP.start w
  have e4 : ((strL [48, 46, 49]).toList == [48, 46, 49]) = true := by decide +kernel
  go_enter Tryz.func10, Tryz.ntmps10
  go_wp2_with fail; refine ((ptext_is 14 2 [48, 46, 49] _ _ _ _ rfl (by decide) tw1 hW.va)).mono ?_; rintro ex w1 ⟨rfl, hb⟩; replace hL := hL.go hb; clear hb
  go_wp2_with fail; refine ((tprint_lit tw3 tw4 (by decide) (by decide) _ (hW.below hL.below))).mono ?_; rintro ex w1 ⟨rfl, hb⟩; replace hL := hL.go hb; clear hb
  go_wp2_with fail; refine ((ptext_is 1 1 [45, 49, 101, 57, 57] _ _ _ _ rfl (by decide) tw2 (hW.below hL.below).va)).mono ?_; rintro ex w1 ⟨rfl, hb⟩; replace hL := hL.go hb; clear hb
  go_wp2
  go_ret
  exact ⟨rfl, hL.below⟩
end Go.Proofs.YtehpneojiinmdaaGreatDoor
namespace Go.Proofs.YtehpneojiinmdaaGreatDoor
open Go.RowKit Go.Cal
section
variable {w W W' : World} {A : Option Addr} {n c X g h : Nat} {neg : Bool} {s0 : Value} {t f : Int}
end
theorem pBlk_madeR (w : World) (cs : Array Value) (t : TypeId) (s : Nat) (hs : w.heap.size = s) : pBlk s cs t (w.alloc (.cells cs t)) := by
  subst hs
  exact pBlk_made w cs t
theorem cells4R {w : World} {g : Nat} {a b c d : Value} {t : TypeId} (hp : pBlk g #[a, b, c, d] t w) :
    w.cell? ⟨g, 0, none⟩ = some a ∧ w.cell? ⟨g, 1, none⟩ = some b ∧ w.cell? ⟨g, 2, none⟩ = some c ∧ w.cell? ⟨g, 3, none⟩ = some d := ⟨hp.cell 0 _ rfl, hp.cell 1 _ rfl, hp.cell 2 _ rfl, hp.cell 3 _ rfl⟩
/-- Other blocks than two lie as they lay. -/
def Kept2 (g h : Nat) (W W' : World) : Prop := ∀ k, k < W.heap.size → k ≠ g → k ≠ h → W'.heap[k]? = W.heap[k]?
theorem Kept2.blk {g h k : Nat} {W W' : World} {cs : Array Value} {t : TypeId} (hk : Kept2 g h W W') (hp : pBlk k cs t W) (n1 : k ≠ g) (n2 : k ≠ h) : pBlk k cs t W' := (hk k hp.lt n1 n2).trans hp
/-- The two variables of Reduced. -/
def RedS (B g h : Nat) (neg : Bool) (s0 : Value) (t f : Int) (X : Nat) (W : World) : Prop := B ≤ g ∧ B ≤ h ∧ g ≠ h ∧ ∃ A n c, pBlk g #[.bool neg, s0, .int .i64 t, .int .i64 f] 52 W ∧ pBlk h #[.slice A n c] 45 W ∧ IsT W (.slice A n c) 128 X
theorem RedS.below {B g h : Nat} {neg : Bool} {s0 : Value} {t f : Int} {X : Nat} {W W' : World} (hS : RedS B g h neg s0 t f X W) (hb : Below W.heap.size W W') : RedS B g h neg s0 t f X W' := by
  obtain ⟨h1, h2, h3, A, n, c, pg, ph, hv⟩ := hS
  exact ⟨h1, h2, h3, A, n, c, pBlk_st _ _ _ _ _ pg hb, pBlk_st _ _ _ _ _ ph hb, hv.below hb⟩
end Go.Proofs.YtehpneojiinmdaaGreatDoor
namespace Go.Proofs.YtehpneojiinmdaaGreatDoor
open Go.RowKit Go.Cal
set_option maxRecDepth 100000 in
set_option maxHeartbeats 1000000 in
/-- Nought as an exact number. -/
theorem xof_zero (neg : Bool) (m : Nat) (t : Int) (w : World) :
    Calls Tryz.prog 94 #[.agg #[.int .i64 1, .bool neg, .int .u64 (m : Nat), .int .i64 t]] w fun e w' => e = .returned (.tuple #[.agg #[.bool neg, .slice none 0 0, .int .i64 0, .int .i64 0], .bool true]) ∧ Below w.heap.size w w' := by
  have hp := pBlk_madeR (w.alloc (.cells #[.int .i64 1, .bool neg, .int .u64 (m : Nat), .int .i64 t] 31)) #[.bool neg, .slice none 0 0, .int .i64 0, .int .i64 0] 52 (w.heap.size + 1) (by simp)
  have r0 := hp.cell 0 _ rfl
  have r1 := hp.cell 1 _ rfl
  have r2 := hp.cell 2 _ rfl
  have r3 := hp.cell 3 _ rfl
  have hb1 : Below w.heap.size w ((w.alloc (.cells #[.int .i64 1, .bool neg, .int .u64 (m : Nat), .int .i64 t] 31)).alloc (.cells #[.bool neg, .slice none 0 0, .int .i64 0, .int .i64 0] 52)) := ((Below.refl _ _).alloc (Nat.le_refl _) _).alloc (by simp) _
  clear hp
  go_enter Tryz.func94, Tryz.ntmps94
  go_wp2
  exact bodyPost_ret (v := .tuple #[.agg #[.bool neg, .slice none 0 0, .int .i64 0, .int .i64 0], .bool true]) (by simp [results, Tryz.results94, go_sem, r0, r1, r2, r3]) rfl ⟨rfl, hb1⟩
theorem nil_tW (w : World) (k : Nat) : IsT w (.slice none 0 0) k 0 := ⟨none, 0, [], rfl, .nil, Nat.le_refl _, by unfold maxLen; omega, by simp, .zero⟩
theorem isT_word (w : World) (x : Nat) (i : Int) (s : Nat) (hs : w.heap.size = s) (hi : i = (x : Int)) (h0 : 0 < x) (hx : x < 18446744073709551616) : IsT (w.alloc (.cells #[.int .u64 i] 22)) (.slice (some ⟨s, 0, none⟩) 1 1) 128 x := by
  subst hs; subst hi
  have hrd := ((BlkU.lit w 22 [x] #[.int .u64 x] rfl).rd 0 1 (by simp)).more (B' := (w.alloc (.cells #[.int .u64 x] 22)).heap.size) (by simp)
  refine ⟨_, 1, [x], rfl, hrd, Nat.le_refl _, by unfold maxLen; omega, by simp, fun y hy => ?_, fun h => ?_, by simp [vl]⟩
  · simp at hy; subst hy; exact hx
  · simp; omega
set_option maxRecDepth 100000 in
set_option maxHeartbeats 1000000 in
/-- What becomes of infinity. -/
theorem thuge_of (ti mode P : Int) (neg : Bool) (hrd : Hid (∀ (W : World) (A : Option Addr) (n c : Nat), VaW W → IsT W (.slice A n c) 128 1 → Calls Tryz.prog 24 #[.int .i64 ti, .int .i64 mode, .agg #[.bool neg, .slice A n c, .int .i64 4000, .int .i64 0]] W fun e w' => e = .returned (.tuple #[.int .u64 P, .int .i64 0]) ∧ Below W.heap.size W w')) (w : World) (hW : VaW w) :
    Calls Tryz.prog 93 #[.agg #[.int .i64 (fK ti), .int .i64 (fW ti), .int .i64 (fM ti), .int .i64 (fB ti), .int .u64 (fT ti), .int .u64 (fI ti), .int .u64 (fN ti), .int .i64 ti, .int .i64 mode], .bool neg] w fun e w' => e = .returned (.int .u64 P) ∧ Below w.heap.size w w' := by
  have hB : Below w.heap.size w ((w.alloc (.cells #[.int .i64 (fK ti), .int .i64 (fW ti), .int .i64 (fM ti), .int .i64 (fB ti), .int .u64 (fT ti), .int .u64 (fI ti), .int .u64 (fN ti), .int .i64 ti, .int .i64 mode] 100)).alloc (.cells #[.int .u64 1] 22)) := ((Below.refl _ _).alloc (Nat.le_refl _) _).alloc (by simp) _
  have hv := isT_word (w.alloc (.cells #[.int .i64 (fK ti), .int .i64 (fW ti), .int .i64 (fM ti), .int .i64 (fB ti), .int .u64 (fT ti), .int .u64 (fI ti), .int .u64 (fN ti), .int .i64 ti, .int .i64 mode] 100)) 1 1 (w.heap.size + 1) (by simp) rfl (by decide) (by decide)
  go_enter Tryz.func93, Tryz.ntmps93
  go_wp2_with fail
  refine (hrd.out _ _ _ _ (hW.below hB) hv).mono ?_
  rintro e w1 ⟨rfl, hb⟩
  go_wp2
  go_ret
  exact ⟨rfl, hB.trans (hb.mono hB.size)⟩
theorem round_yes (ti mode : Int) (neg : Bool) (N : Nat) (t f : Int) (hm : roundE ti mode = 0) (ht : -5000 ≤ t ∧ t ≤ 5000) (hf : -5000 ≤ f ∧ f ≤ 5000) {W : World} {A : Option Addr} {n c : Nat} (hW : VaW W) (hv : IsT W (.slice A n c) 128 N) :
    Calls Tryz.prog 24 #[.int .i64 ti, .int .i64 mode, .agg #[.bool neg, .slice A n c, .int .i64 t, .int .i64 f]] W fun e w' => e = .returned (.tuple #[.int .u64 (roundP ti mode neg (exP N t f) (exQ t f)), .int .i64 0]) ∧ Below W.heap.size W w' := by
  have h := rround_any ti mode neg t f hW hv ht hf
  unfold roundR at h
  rw [if_pos hm, hm] at h
  exact h
theorem thuge_any (ti mode : Int) (neg : Bool) (T : Int) (hT : T = 4000) (hm : roundE ti mode = 0) (w : World) (hW : VaW w) :
    Calls Tryz.prog 93 #[.agg #[.int .i64 (fK ti), .int .i64 (fW ti), .int .i64 (fM ti), .int .i64 (fB ti), .int .u64 (fT ti), .int .u64 (fI ti), .int .u64 (fN ti), .int .i64 ti, .int .i64 mode], .bool neg] w fun e w' => e = .returned (.int .u64 (roundP ti mode neg (exP 1 T 0) (exQ T 0))) ∧ Below w.heap.size w w' := by
  refine thuge_of ti mode _ neg (Lib.hid fun W A n c hW hv => ?_) w hW
  have h := round_yes ti mode neg 1 T 0 hm (by omega) (by decide) hW hv
  rw [hT] at h ⊢
  exact h
/-- What Turn makes, by cases. -/
theorem turnP_cases (ti mode c : Int) (n : Bool) (m : Nat) (e : Int) (hc : c = 1 ∨ c = 2 ∨ c = 3 ∨ c = 4) :
    (c = 4 ∧ turnP ti mode c n m e = fN ti) ∨ (c = 3 ∧ (fK ti == 1) = true ∧ turnP ti mode c n m e = fN ti) ∨ (c = 3 ∧ (fK ti == 1) = false ∧ (fK ti == 4) = true ∧ n = true ∧ turnP ti mode c n m e = fN ti) ∨
    (c = 3 ∧ (fK ti == 1) = false ∧ ((fK ti == 4) = false ∨ ((fK ti == 4) = true ∧ n = false)) ∧ turnP ti mode c n m e = roundP ti mode n (exP 1 4000 0) (exQ 4000 0)) ∨
    (c = 1 ∧ turnP ti mode c n m e = roundP ti mode n (exP 0 0 0) (exQ 0 0)) ∨ (c = 2 ∧ turnP ti mode c n m e = roundP ti mode n (exP m e 0) (exQ e 0)) := by
  rcases hc with rfl | rfl | rfl | rfl
  · exact .inr (.inr (.inr (.inr (.inl ⟨rfl, by unfold turnP; rw [if_neg (by decide), if_neg (by decide), if_pos rfl]⟩))))
  · exact .inr (.inr (.inr (.inr (.inr ⟨rfl, by unfold turnP; rw [if_neg (by decide), if_neg (by decide), if_neg (by decide)]⟩))))
  · by_cases h1 : fK ti = 1
    · exact .inr (.inl ⟨rfl, by simp [h1], by unfold turnP; rw [if_neg (by decide), if_pos rfl, if_pos (.inl h1)]⟩)
    · by_cases h4 : fK ti = 4 ∧ n = true
      · exact .inr (.inr (.inl ⟨rfl, by simp [h1], by simp [h4.1], h4.2, by unfold turnP; rw [if_neg (by decide), if_pos rfl, if_pos (.inr h4)]⟩))
      · refine .inr (.inr (.inr (.inl ⟨rfl, by simp [h1], ?_, by unfold turnP; rw [if_neg (by decide), if_pos rfl, if_neg (fun h => h.elim h1 h4)]⟩)))
        by_cases h5 : fK ti = 4
        · right; refine ⟨by simp [h5], ?_⟩
          cases n
          · rfl
          · exact absurd ⟨h5, rfl⟩ h4
        · left; simp [h5]
  · exact .inl ⟨rfl, by unfold turnP; rw [if_pos rfl]⟩
set_option maxRecDepth 100000 in
set_option maxHeartbeats 4000000 in
theorem tturn_of (ti mode c e P : Int) (n : Bool) (m : Nat) (hm : roundE ti mode = 0) (hmb : m < 18446744073709551616) (he : -2000 ≤ e ∧ e ≤ 2000)
    (hcs : (c = 4 ∧ P = fN ti) ∨ (c = 3 ∧ (fK ti == 1) = true ∧ P = fN ti) ∨ (c = 3 ∧ (fK ti == 1) = false ∧ (fK ti == 4) = true ∧ n = true ∧ P = fN ti) ∨
      (c = 3 ∧ (fK ti == 1) = false ∧ ((fK ti == 4) = false ∨ ((fK ti == 4) = true ∧ n = false)) ∧ Hid (∀ w, VaW w → Calls Tryz.prog 93 #[.agg #[.int .i64 (fK ti), .int .i64 (fW ti), .int .i64 (fM ti), .int .i64 (fB ti), .int .u64 (fT ti), .int .u64 (fI ti), .int .u64 (fN ti), .int .i64 ti, .int .i64 mode], .bool n] w fun e w' => e = .returned (.int .u64 P) ∧ Below w.heap.size w w')) ∨
      (c = 1 ∧ P = roundP ti mode n (exP 0 0 0) (exQ 0 0)) ∨ (c = 2 ∧ P = roundP ti mode n (exP m e 0) (exQ e 0))) (w : World) (hW : VaW w) :
    Calls Tryz.prog 48 #[.agg #[.int .i64 (fK ti), .int .i64 (fW ti), .int .i64 (fM ti), .int .i64 (fB ti), .int .u64 (fT ti), .int .u64 (fI ti), .int .u64 (fN ti), .int .i64 ti, .int .i64 mode], .agg #[.int .i64 c, .bool n, .int .u64 (m : Nat), .int .i64 e]] w fun ex w' => ex = .returned (.int .u64 P) ∧ Below w.heap.size w w' := by
  have hL := ((((LiveP.start w).go ((Below.refl w.heap.size w).alloc (Nat.le_refl _) (.cells #[.int .i64 (fK ti), .int .i64 (fW ti), .int .i64 (fM ti), .int .i64 (fB ti), .int .u64 (fT ti), .int .u64 (fI ti), .int .u64 (fN ti), .int .i64 ti, .int .i64 mode] 100))).put (pBlk_st _ _ _) (pBlk_made w #[.int .i64 (fK ti), .int .i64 (fW ti), .int .i64 (fM ti), .int .i64 (fB ti), .int .u64 (fT ti), .int .u64 (fI ti), .int .u64 (fN ti), .int .i64 ti, .int .i64 mode] 100)).go ((Below.refl _ _).alloc (Nat.le_refl _) (.cells #[.int .i64 c, .bool n, .int .u64 (m : Nat), .int .i64 e] 31))).put (pBlk_st _ _ _) (pBlk_madeR (w.alloc (.cells #[.int .i64 (fK ti), .int .i64 (fW ti), .int .i64 (fM ti), .int .i64 (fB ti), .int .u64 (fT ti), .int .u64 (fI ti), .int .u64 (fN ti), .int .i64 ti, .int .i64 mode] 100)) #[.int .i64 c, .bool n, .int .u64 (m : Nat), .int .i64 e] 31 (w.heap.size + 1) (by simp))
  rcases hcs with ⟨rfl, rfl⟩ | ⟨rfl, k1, rfl⟩ | ⟨rfl, k1, k4, rfl, rfl⟩ | ⟨rfl, k1, k4, hh⟩ | ⟨rfl, rfl⟩ | ⟨rfl, rfl⟩
  · clear hm hmb he
    go_enter Tryz.func48, Tryz.ntmps48
    go_wp2
    go_ret
    exact ⟨rfl, hL.below⟩
  · clear hm hmb he
    go_enter Tryz.func48, Tryz.ntmps48
    go_wp2
    go_ret
    exact ⟨rfl, hL.below⟩
  · clear hm hmb he
    go_enter Tryz.func48, Tryz.ntmps48
    go_wp2
    go_ret
    exact ⟨rfl, hL.below⟩
  · clear hm hmb he
    rcases k4 with k4 | ⟨k4, rfl⟩
    all_goals
      go_enter Tryz.func48, Tryz.ntmps48
      go_wp2_with fail
      refine (hh.out _ (hW.below hL.below)).mono ?_
      rintro ex w1 ⟨rfl, hb⟩
      go_wp2
      go_ret
      exact ⟨rfl, (hL.go hb).below⟩
  · have hx := Lib.hid fun w => xof_zero n m e w
    have hr := Lib.hid fun (W : World) (hW : VaW W) => round_yes ti mode n 0 0 0 hm (by decide) (by decide) hW (nil_tW W 128)
    generalize roundP ti mode n (exP 0 0 0) (exQ 0 0) = P at hr ⊢
    clear hm hmb he
    go_enter Tryz.func48, Tryz.ntmps48
    go_wp2_with fail
    refine (hx.out _).mono ?_
    rintro ex w1 ⟨rfl, hb⟩
    have hL1 := ((hL.go hb).go ((Below.refl _ _).alloc (Nat.le_refl _) (.cells #[.bool n, .slice none 0 0, .int .i64 0, .int .i64 0] 52))).put (pBlk_st _ _ _) (pBlk_made w1 #[.bool n, .slice none 0 0, .int .i64 0, .int .i64 0] 52)
    clear hb
    have hp := hL1.get (P := pBlk w.heap.size #[.int .i64 (fK ti), .int .i64 (fW ti), .int .i64 (fM ti), .int .i64 (fB ti), .int .u64 (fT ti), .int .u64 (fI ti), .int .u64 (fN ti), .int .i64 ti, .int .i64 mode] 100) (by repeat (first | exact List.mem_cons_self | apply List.mem_cons_of_mem))
    have t7 := hp.cell 7 _ rfl
    have t8 := hp.cell 8 _ rfl
    go_wp2_with fail
    refine (hr.out _ (hW.below hL1.below)).mono ?_
    rintro ex w2 ⟨rfl, hb⟩
    go_wp2
    go_ret
    exact ⟨rfl, (hL1.go hb).below⟩
  · have hx := Lib.hid fun w => xof_fin n m e hmb ⟨by omega, by omega⟩ w
    have hr := Lib.hid fun (W : World) (A : Option Addr) (k c : Nat) (hW : VaW W) (hv : IsT W (.slice A k c) 128 m) => round_yes ti mode n m e 0 hm ⟨by omega, by omega⟩ (by decide) hW hv
    generalize roundP ti mode n (exP m e 0) (exQ e 0) = P at hr ⊢
    clear hm hmb he
    go_enter Tryz.func48, Tryz.ntmps48
    go_wp2_with fail
    refine (hx.out _).mono ?_
    rintro ex w1 ⟨A, k, c, rfl, hv, hb⟩
    have hL1 := ((((hL.go hb).put (pT_st (.slice A k c) 128 m) hv).go ((Below.refl _ _).alloc (Nat.le_refl _) (.cells #[.bool n, .slice A k c, .int .i64 e, .int .i64 0] 52)))).put (pBlk_st _ _ _) (pBlk_made w1 #[.bool n, .slice A k c, .int .i64 e, .int .i64 0] 52)
    clear hb hv
    have hp := hL1.get (P := pBlk w.heap.size #[.int .i64 (fK ti), .int .i64 (fW ti), .int .i64 (fM ti), .int .i64 (fB ti), .int .u64 (fT ti), .int .u64 (fI ti), .int .u64 (fN ti), .int .i64 ti, .int .i64 mode] 100) (by repeat (first | exact List.mem_cons_self | apply List.mem_cons_of_mem))
    have t7 := hp.cell 7 _ rfl
    have t8 := hp.cell 8 _ rfl
    go_wp2_with fail
    refine (hr.out _ _ _ _ (hW.below hL1.below) (hL1.get (P := pT (.slice A k c) 128 m) (by repeat (first | exact List.mem_cons_self | apply List.mem_cons_of_mem)))).mono ?_
    rintro ex w2 ⟨rfl, hb⟩
    go_wp2
    go_ret
    exact ⟨rfl, (hL1.go hb).below⟩
end Go.Proofs.YtehpneojiinmdaaGreatDoor
namespace Go.Proofs.YtehpneojiinmdaaGreatDoor
open Go.RowKit Go.Cal
set_option maxRecDepth 100000 in
set_option maxHeartbeats 4000000 in
theorem turn_of (fr ti mode p c e P : Int) (n : Bool) (m : Nat) (h1 : 1 ≤ ti) (h2 : ti < 15) (hm : (mode != 1) = false ∨ ((mode != 1) = true ∧ (mode != 2) = false))
    (hdc : Hid (∀ w, VaW w → Calls Tryz.prog 13 #[.int .i64 fr, .int .u64 p] w fun e' w' => e' = .returned (.tuple #[.agg #[.int .i64 c, .bool n, .int .u64 (m : Nat), .int .i64 e], .int .i64 0]) ∧ Below w.heap.size w w'))
    (htu : Hid (∀ w, VaW w → Calls Tryz.prog 48 #[.agg #[.int .i64 (fK ti), .int .i64 (fW ti), .int .i64 (fM ti), .int .i64 (fB ti), .int .u64 (fT ti), .int .u64 (fI ti), .int .u64 (fN ti), .int .i64 ti, .int .i64 mode], .agg #[.int .i64 c, .bool n, .int .u64 (m : Nat), .int .i64 e]] w fun ex w' => ex = .returned (.int .u64 P) ∧ Below w.heap.size w w')) (w : World) (hW : VaW w) :
    Calls Tryz.prog 14 #[.int .i64 fr, .int .i64 ti, .int .i64 mode, .int .u64 p] w fun ex w' => ex = .returned (.tuple #[.int .u64 P, .int .i64 0]) ∧ Below w.heap.size w w' := by
  have hof := Lib.hid fun w (hW : VaW w) => fo_of ti w hW.frm h1 h2
  have hL := LiveP.start w
  clear h1 h2
  rcases hm with m1 | ⟨m1, m2⟩
  all_goals
                go_enter Tryz.func14, Tryz.ntmps14
                go_wp2_with fail
                refine (hdc.out _ hW).mono ?_
                rintro ex w1 ⟨rfl, hb⟩
                have hL1 := ((hL.go hb).go ((Below.refl _ _).alloc (Nat.le_refl _) (.cells #[.int .i64 c, .bool n, .int .u64 (m : Nat), .int .i64 e] 31))).put (pBlk_st _ _ _) (pBlk_made w1 #[.int .i64 c, .bool n, .int .u64 (m : Nat), .int .i64 e] 31)
                clear hb
                go_wp2_with fail
                refine (hof.out _ (hW.below hL1.below)).mono ?_
                rintro ex w2 ⟨rfl, hb⟩
                have hL2 := ((hL1.go hb).go ((Below.refl _ _).alloc (Nat.le_refl _) (.cells #[.int .i64 (fK ti), .int .i64 (fW ti), .int .i64 (fM ti), .int .i64 (fB ti), .int .u64 (fT ti), .int .u64 (fI ti), .int .u64 (fN ti)] 25))).put (pBlk_st _ _ _) (pBlk_made w2 #[.int .i64 (fK ti), .int .i64 (fW ti), .int .i64 (fM ti), .int .i64 (fB ti), .int .u64 (fT ti), .int .u64 (fI ti), .int .u64 (fN ti)] 25)
                clear hb
                obtain ⟨a0, a1, a2, a3⟩ := cells4R (hL2.get (P := pBlk w1.heap.size #[.int .i64 c, .bool n, .int .u64 (m : Nat), .int .i64 e] 31) (by repeat (first | exact List.mem_cons_self | apply List.mem_cons_of_mem)))
                go_wp2_with fail
                refine (htu.out _ (hW.below hL2.below)).mono ?_
                rintro ex w3 ⟨rfl, hb⟩
                have hL3 := hL2.go hb
                go_wp2
                go_ret2
                exact ⟨(by first | rfl | trivial), hL3.below⟩
theorem turn_any (fr ti mode p : Int) (hp0 : 0 ≤ p) (hf : fitsV fr p = 0) (h1 : 1 ≤ ti) (h2 : ti < 15) (hm : mode = 1 ∨ mode = 2) (w : World) (hW : VaW w) :
    Calls Tryz.prog 14 #[.int .i64 fr, .int .i64 ti, .int .i64 mode, .int .u64 p] w fun ex w' => ex = .returned (.tuple #[.int .u64 (turnP ti mode (classV fr p) (decN fr p) (decM fr p) (decE fr p)), .int .i64 0]) ∧ Below w.heap.size w w' := by
  obtain ⟨f1, f2, f3⟩ := fits_two hf
  have hE : roundE ti mode = 0 := by unfold roundE; rw [if_neg (by omega), if_neg (by omega)]
  have hbn : decM fr p < 18446744073709551616 ∧ -2000 ≤ decE fr p ∧ decE fr p ≤ 2000 := by
    by_cases hc : classV fr p = 2
    · obtain ⟨b1, b2, b3, b4⟩ := (fin_of f1 f2 hp0 f3 hc).bnd
      exact ⟨b2, b3, b4⟩
    · unfold decM decE
      rw [if_neg hc, if_neg hc]
      exact ⟨by decide, by decide, by decide⟩
  have hdc := fun w hW => vdec_yes fr p f1 f2 hp0 f3 w hW
  have hcs := turnP_cases ti mode (classV fr p) (decN fr p) (decM fr p) (decE fr p) (by rcases class_all fr p with h | h | h | h <;> omega)
  have hmm : (mode != 1) = false ∨ ((mode != 1) = true ∧ (mode != 2) = false) := by rcases hm with rfl | rfl <;> decide
  refine turn_of fr ti mode p _ _ _ _ _ h1 h2 hmm (Lib.hid hdc) (Lib.hid fun w hW => tturn_of ti mode _ _ _ _ _ hE hbn.1 ⟨hbn.2.1, hbn.2.2⟩ ?_ w hW) w hW
  rcases hcs with h | h | h | ⟨a, b, c, d⟩ | h | h
  · exact .inl h
  · exact .inr (.inl h)
  · exact .inr (.inr (.inl h))
  · refine .inr (.inr (.inr (.inl ⟨a, b, c, ?_⟩)))
    rw [d]
    exact Lib.hid fun w hW => thuge_any ti mode _ 4000 rfl hE w hW
  · exact .inr (.inr (.inr (.inr (.inl h))))
  · exact .inr (.inr (.inr (.inr (.inr h))))
end Go.Proofs.YtehpneojiinmdaaGreatDoor
namespace Go.Proofs.YtehpneojiinmdaaGreatDoor
open Go.RowKit Go.Cal
theorem s1 : priT 1 128 = [78, 97, 82] := by decide +kernel
theorem s2 : priT 6 252 = [45, 105, 110, 102] := by decide +kernel
theorem s3 : priT 13 2147483648 = [45, 48] := by decide +kernel
theorem s4 : priT 5 255 = [110, 97, 110] := by decide +kernel
theorem s5 : priT 14 4591870180066957722 = [48, 46, 49] := by decide +kernel
theorem s6 : priT 1 65 = [49, 46, 49] := by decide +kernel
theorem s7 : priT 14 1 = [53, 101, 45, 51, 50, 52] := by decide +kernel
end Go.Proofs.YtehpneojiinmdaaGreatDoor
namespace Go.Proofs.YtehpneojiinmdaaGreatDoor
open Go.RowKit Go.Cal
theorem uN_zeroT {kd wd mn bs : Nat} (h : kd ≤ 3) (h0 : 0 < kd) : uN kd wd mn bs (2 * 0) = 0 := by
  unfold uN
  have h3 : kd = 1 ∨ kd = 2 ∨ kd = 3 := by omega
  rcases h3 with rfl | rfl | rfl
  · rfl
  · simp [miW, miM]
  · simp
/-- A pattern of a number is that of its sign and magnitude. -/
theorem part_pat {id p : Int} (h1 : 1 ≤ id) (h2 : id < 15) (hp0 : 0 ≤ p) (hp1 : p < 2 ^ (fW id).toNat) (hc : classV id p = 1 ∨ classV id p = 2) : patV id (partN id p) (partK id p) = p ∧ isnB id p = true := by
  rcases id_cases h1 h2 with rfl | rfl | rfl | rfl | rfl | rfl | rfl | rfl | rfl | rfl | rfl | rfl | rfl | rfl <;>
    simp [classV, patV, isnB, partK, partN, fK, fW, fT, fN, fI] at hp1 hc ⊢ <;> (repeat' split at hc) <;> simp_all <;> omega
theorem class_one_key {id p : Int} (hc : classV id p = 1) : partK id p = 0 ∧ fK id ≠ 4 := by
  unfold classV at hc
  split at hc
  · cases hc
  · split at hc
    · cases hc
    · split at hc
      · rename_i h; exact h
      · cases hc
theorem class_three {id p : Int} (h1 : 1 ≤ id) (h2 : id < 15) (_ : 0 ≤ p) (hp1 : p < 2 ^ (fW id).toNat) (hc : classV id p = 3) : (∀ neg, wordB id 2 neg = true) ∧ wordP id 2 (partN id p) = p ∧ canonV id p = p := by
  rcases id_cases h1 h2 with rfl | rfl | rfl | rfl | rfl | rfl | rfl | rfl | rfl | rfl | rfl | rfl | rfl | rfl <;>
    simp [classV, wordB, wordP, canonV, fitsV, isnB, partK, partN, fK, fW, fT, fN, fI] at hp1 hc ⊢ <;> (repeat' split at hc) <;> simp_all <;> omega
end Go.Proofs.YtehpneojiinmdaaGreatDoor
namespace Go.Proofs.YtehpneojiinmdaaGreatDoor
open Go.RowKit Go.Cal
theorem tzN_odd : ∀ (f m : Nat), 0 < m → m < 2 ^ f → m / 2 ^ tzN f m % 2 = 1
  | 0, m, h0, h => by simp at h; omega
  | f + 1, m, h0, h => by
    unfold tzN
    by_cases h2 : m % 2 = 0
    · rw [if_pos h2]
      have ih := tzN_odd f (m / 2) (by omega) (by rw [Nat.pow_succ] at h; omega)
      rw [Nat.pow_succ, Nat.mul_comm (2 ^ tzN f (m / 2)) 2, ← Nat.div_div_eq_div_mul]
      exact ih
    · rw [if_neg h2]; simp; omega
theorem mag_odd {id : Int} {key : Nat} (h1 : 1 ≤ id) (h2 : id < 15) (hk : (key : Int) ≤ fitM id) (h0 : fK id ≠ 4 → 0 < key) : (magV id 0 key).1 % 2 = 1 := by
  obtain ⟨w1, w2, w3, w4, -⟩ := fo_wide h1 h2
  have hKn := fK_nat id
  have hKb := fK_bnd id
  obtain ⟨k0, kw, k1, k2, k4⟩ := mag_own h1 h2 hk (fun h => h0 (by omega))
  obtain ⟨a1, -⟩ := mag_range0 h1 h2 hk h0
  have hb : 0 < (numQ (fK id).toNat (fW id).toNat (fM id).toNat (fB id).toNat 0 key).1 ∧ (numQ (fK id).toNat (fW id).toNat (fM id).toNat (fB id).toNat 0 key).1 < 18446744073709551616 := by
    by_cases h4 : fK id = 4
    · have e : numQ (fK id).toNat (fW id).toNat (fM id).toNat (fB id).toNat 0 key = (1 + 2 * 0, ((key / 2 ^ 0 : Nat) : Int) - (fB id).toNat - ((0 : Nat) : Int)) := by
        unfold numQ
        rw [h4]; rfl
      rw [e]
      exact ⟨show 0 < 1 by decide, show 1 < 18446744073709551616 by decide⟩
    · obtain ⟨b1, b2, b3⟩ := numQ_bnd (kd := (fK id).toNat) (wd := (fW id).toNat) (mn := (fM id).toNat) (bs := (fB id).toNat) (j := key) (more := 0) (by decide) (h0 h4) kw
        (fun h => ⟨by omega, (k1 (by omega)).2⟩) w3 (fun h => k2 (by omega)) (fun h3 h4 h5 => by omega)
      exact ⟨b1, b2⟩
  have hm : (magV id 0 key).1 = (oddP 64 (numQ (fK id).toNat (fW id).toNat (fM id).toNat (fB id).toNat 0 key).1 (numQ (fK id).toNat (fW id).toNat (fM id).toNat (fB id).toNat 0 key).2).1 := rfl
  rw [hm]
  unfold oddP
  rw [if_neg (by omega)]
  exact tzN_odd 64 _ hb.1 (by have := hb.2; simpa using this)
/-- An odd number, and a power of two: told by the product. -/
theorem odd_two {m m' a b : Nat} (hm : m % 2 = 1) (hm' : m' % 2 = 1) (h : m * 2 ^ a = m' * 2 ^ b) : m = m' ∧ a = b := by
  have key : ∀ {m m' a b : Nat}, m % 2 = 1 → m * 2 ^ a = m' * 2 ^ b → b ≤ a := by
    intro m m' a b hm h
    rcases Nat.lt_or_ge a b with hab | hab
    · exfalso
      obtain ⟨c, hc⟩ : ∃ c, b = a + (c + 1) := ⟨b - a - 1, by omega⟩
      rw [hc, Nat.pow_add, ← Nat.mul_assoc, Nat.mul_right_comm] at h
      have h2 := Nat.eq_of_mul_eq_mul_right (Nat.two_pow_pos a) h
      rw [Nat.pow_succ, ← Nat.mul_assoc] at h2
      omega
    · exact hab
  have h1 := key hm h
  have h2 := key hm' h.symm
  have hab : a = b := by omega
  subst hab
  exact ⟨Nat.eq_of_mul_eq_mul_right (Nat.two_pow_pos a) h, rfl⟩
theorem poV_shift {K n key : Nat} (hn : 1 ≤ n) (h0 : 0 < key) (h : key < 2 ^ n) : ∀ w, 5 * (n + w) + 10 ≤ K → poV K (n + w) (key * 2 ^ w) = poV K n key
  | 0, _ => by simp
  | w + 1, hK => by
    have ih := poV_shift (K := K) hn h0 h w (by omega)
    have hlt : key * 2 ^ w < 2 ^ (n + w) := by rw [Nat.pow_add]; exact Nat.mul_lt_mul_of_pos_right h (Nat.two_pow_pos _)
    rw [← ih, ← poV_twice (n := n + w) (key := key * 2 ^ w) (by omega) (Nat.mul_pos h0 (Nat.two_pow_pos _)) hlt (by omega)]
    congr 1
    rw [Nat.pow_succ]; ac_rfl
theorem posit_next {id : Int} (h1 : 1 ≤ id) (h3 : id ≤ 3) : (fW (id + 1)).toNat = 2 * (fW id).toNat ∧ fK id = 1 ∧ fK (id + 1) = 1 ∧ (fT id).toNat + 1 = 2 ^ ((fW id).toNat - 1) ∧ (fT (id + 1)).toNat + 1 = 2 ^ (2 * (fW id).toNat - 1) ∧ fitM id = fT id ∧ fitM (id + 1) = fT (id + 1) ∧ 8 ≤ (fW id).toNat ∧ (fW id).toNat ≤ 32 := by
  have : id = 1 ∨ id = 2 ∨ id = 3 := by omega
  rcases this with rfl | rfl | rfl <;> decide +kernel
/-- A magnitude with as many noughts behind it as the form has bits is the same number, of the next form. -/
theorem posit_twice {id : Int} {K : Nat} (h1 : 1 ≤ id) (h3 : id ≤ 3) (hk : (K : Int) ≤ fitM id) (h0 : 0 < K) :
    ((K * 2 ^ (fW id).toNat : Nat) : Int) ≤ fitM (id + 1) ∧ magV (id + 1) 0 (K * 2 ^ (fW id).toNat) = magV id 0 K ∧
      uN (fK (id + 1)).toNat (fW (id + 1)).toNat (fM (id + 1)).toNat (fB (id + 1)).toNat (2 * (K * 2 ^ (fW id).toNat)) = uN (fK id).toNat (fW id).toNat (fM id).toNat (fB id).toNat (2 * K) := by
  obtain ⟨n1, n2, n3, n4, n5, n6, n7, n8, n9⟩ := posit_next h1 h3
  obtain ⟨W, hW⟩ : ∃ W, (fW id).toNat = W := ⟨_, rfl⟩
  have hT := (ft_bounds id).2.2.2.1
  have hT2 := (ft_bounds (id + 1)).2.2.2.1
  rw [hW] at n1 n4 n5 n8 n9 ⊢
  have hlt : K < 2 ^ (W - 1) := by omega
  have hlt2 : K * 2 ^ W < 2 ^ (2 * W - 1) := by
    rw [show 2 * W - 1 = (W - 1) + W by omega, Nat.pow_add]
    exact Nat.mul_lt_mul_of_pos_right hlt (Nat.two_pow_pos _)
  have hk2 : ((K * 2 ^ W : Nat) : Int) ≤ fitM (id + 1) := by omega
  have hu : uN (fK (id + 1)).toNat (fW (id + 1)).toNat (fM (id + 1)).toNat (fB (id + 1)).toNat (2 * (K * 2 ^ W)) = uN (fK id).toNat W (fM id).toNat (fB id).toNat (2 * K) := by
    have hp := Nat.mul_pos h0 (Nat.two_pow_pos W)
    unfold uN
    rw [n2, n3, if_pos (by decide), if_neg (by omega), if_pos (by decide), if_neg (by omega), n1]
    have := poV_shift (K := 2000) (n := W) (key := 2 * K) (by omega) (by omega) (by
      rw [show W = (W - 1) + 1 by omega, Nat.pow_succ]; omega) W (by omega)
    rw [← this]
    congr 1
    · omega
    · ac_rfl
  refine ⟨hk2, ?_, hu⟩
  obtain ⟨a1, a2, a3, a4, a5, a6⟩ := mag_range0 h1 (show id < 15 by omega) hk (fun _ => h0)
  obtain ⟨b1, b2, b3, b4, b5, b6⟩ := mag_range0 (id := id + 1) (by omega) (by omega) hk2 (fun _ => Nat.mul_pos h0 (Nat.two_pow_pos _))
  rw [hW] at a6
  rw [hu, ← a6] at b6
  obtain ⟨r1, r2⟩ := odd_two (mag_odd (id := id + 1) (by omega) (by omega) hk2 (fun _ => Nat.mul_pos h0 (Nat.two_pow_pos _))) (mag_odd h1 (by omega) hk (fun _ => h0)) b6
  exact Prod.ext r1 (by omega)
theorem next_parts {id p : Int} (h1 : 1 ≤ id) (h3 : id ≤ 3) (hp0 : 0 ≤ p) (hp1 : p < 2 ^ (fW id).toNat) :
    classV (id + 1) (p * 2 ^ (fW id).toNat) = classV id p ∧ partN (id + 1) (p * 2 ^ (fW id).toNat) = partN id p ∧ partK (id + 1) (p * 2 ^ (fW id).toNat) = partK id p * 2 ^ (fW id).toNat ∧ fitsV (id + 1) (p * 2 ^ (fW id).toNat) = 0 ∧ 0 ≤ p * 2 ^ (fW id).toNat := by
  have : id = 1 ∨ id = 2 ∨ id = 3 := by omega
  rcases this with rfl | rfl | rfl <;> simp [fW] at hp1 ⊢ <;> refine ⟨?_, ?_, ?_, ?_, by omega⟩ <;> simp [classV, partK, partN, fitsV, fK, fW, fT, fN, fI] <;> (repeat' split) <;> first | omega | (simp_all <;> omega)
/-- A posit with as many noughts behind it: the same value; Turn makes it; its whole text. -/
theorem next_value {id p : Int} (h1 : 1 ≤ id) (h3 : id ≤ 3) (hp0 : 0 ≤ p) (hp1 : p < 2 ^ (fW id).toNat) (hc : classV id p ≠ 4) :
    decN (id + 1) (p * 2 ^ (fW id).toNat) = decN id p ∧ decM (id + 1) (p * 2 ^ (fW id).toNat) = decM id p ∧ decE (id + 1) (p * 2 ^ (fW id).toNat) = decE id p ∧
    turnP (id + 1) 2 (classV id p) (decN id p) (decM id p) (decE id p) = p * 2 ^ (fW id).toNat ∧ fulT (id + 1) (p * 2 ^ (fW id).toNat) = fulT id p := by
  obtain ⟨c1, c2, c3, c4, c5⟩ := next_parts h1 h3 hp0 hp1
  obtain ⟨n1, n2, n3, n4, n5, n6, n7, n8, n9⟩ := posit_next h1 h3
  have hf : fitsV id p = 0 := by unfold fitsV; rw [if_neg (by omega), if_pos hp1]
  obtain ⟨q, hq⟩ : ∃ q, p * 2 ^ (fW id).toNat = q := ⟨_, rfl⟩
  obtain ⟨f1, f2, f3⟩ := fits_two c4
  rw [hq] at c1 c2 c3 c4 c5 f3 ⊢
  have hN : decN (id + 1) q = decN id p := by unfold decN; rw [c1, c2]
  have hn : decN id p = partN id p := by unfold decN; rw [if_neg hc]
  have hfu : ∀ {x : Int} {i : Int}, fitsV i x = 0 → fulT i x = if classV i x = 2 then lyT (partN i x) (fulD i x).1 (fulD i x).2 else nfT i x := fun h => by unfold fulT; rw [if_neg (fun h' => h' h)]
  rcases class_all id p with h | h | h | h
  · obtain ⟨k0, k4⟩ := class_one_key h
    have m0 : decM (id + 1) q = 0 ∧ decE (id + 1) q = 0 ∧ decM id p = 0 ∧ decE id p = 0 := by
      unfold decM decE
      rw [c1, h]
      exact ⟨rfl, rfl, rfl, rfl⟩
    refine ⟨hN, by rw [m0.1, m0.2.2.1], by rw [m0.2.1, m0.2.2.2], ?_, ?_⟩
    · unfold turnP
      rw [h, if_neg (by decide), if_neg (by decide), if_pos rfl, hn, ← c2]
      have hm : mostE (id + 1) (partN (id + 1) q) = 0 := by
        unfold mostE
        rw [if_neg (by omega), if_neg (fun h => by omega)]
      have hb := (mostV_bnd (id + 1) (partN (id + 1) q)).1
      have := round_own (mode := 2) (key := 0) (P := exP 0 0 0) (Q := exQ 0 0) hm (exQ_pos _ _) (by omega) (.inr (.inr (by simp [exP]))) (fun h => by omega) (by
        rw [uN_zeroT (by omega) (by omega)]; simp [exP])
      rw [this]
      have hp := (part_pat f1 f2 c5 f3 (.inl (c1.trans h))).1
      rw [c3, k0, Int.zero_mul] at hp
      exact hp
    · rw [hfu hf, hfu c4, c1, h, if_neg (by decide), if_neg (by decide)]
      unfold nfT
      rw [c1, h, hN]
      simp
  · have fx := fin_of h1 (show id < 15 by omega) hp0 hp1 h
    have fy := fin_of f1 f2 c5 f3 (c1.trans h)
    obtain ⟨l1, l2, l3, l4⟩ := fx.lims
    obtain ⟨r1, r2, r3, r4⟩ := fy.lims
    have hK0 : 0 < priK id p := l3 (by omega)
    obtain ⟨t1, t2, t3⟩ := posit_twice h1 h3 l4 hK0
    have hK : priK (id + 1) q = priK id p * 2 ^ (fW id).toNat := by
      have a := fy.key
      rw [c3, fx.key] at a
      have : ((priK (id + 1) q : Nat) : Int) = ((priK id p * 2 ^ (fW id).toNat : Nat) : Int) := by rw [← a]; simp
      exact Int.ofNat.inj this
    have hME : decM (id + 1) q = decM id p ∧ decE (id + 1) q = decE id p := by
      have a := fy.mag
      rw [hK, t2, fx.mag] at a
      exact ⟨(Prod.mk.inj a).1.symm, (Prod.mk.inj a).2.symm⟩
    refine ⟨hN, hME.1, hME.2, ?_, ?_⟩
    · unfold turnP
      rw [h, if_neg (by decide), if_neg (by decide), if_neg (by decide), hn, ← c2]
      obtain ⟨-, -, -, -, a5, a6⟩ := mag_range0 h1 (show id < 15 by omega) l4 (fun _ => hK0)
      obtain ⟨b1, b2, b3, b4⟩ := fx.bnd
      rw [fx.mag] at a5 a6
      have hs := sc_of a5 a6
      rw [← t3, ← hK] at hs
      rw [round_own r1 (exQ_pos _ _) r2 (.inr (.inl (r3 (by omega)))) (fun h => by omega) hs]
      have hp := (part_pat f1 f2 c5 f3 (.inr (c1.trans h))).1
      rwa [fy.key] at hp
    · rw [hfu hf, hfu c4, c1, h, if_pos rfl, if_pos rfl, c2]
      unfold fulD
      rw [hME.1, hME.2]
  · exfalso
    obtain ⟨-, -, hw⟩ := class_three h1 (show id < 15 by omega) hp0 hp1 h
    unfold classV at h
    rw [n2, if_neg (by simp)] at h
    split at h
    · omega
    · split at h <;> omega
  · exact absurd h hc
end Go.Proofs.YtehpneojiinmdaaGreatDoor
