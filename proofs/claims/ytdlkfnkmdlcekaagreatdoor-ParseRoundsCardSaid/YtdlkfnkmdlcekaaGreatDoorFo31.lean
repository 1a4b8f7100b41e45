/- Parse, walked: words and numbers. Conditions: the variables that values read. -/
/- Parse, by what it tells. Conditions: the variables that values read. -/
/- What the statements of Parse show in any case. Conditions: the variables that values read. -/
/- Plain: what Parse tells fits. Conditions: none. -/
import Derived.Test.YtdlkfnkmdlcekaaGreatDoorFo30
namespace Go.Proofs.YtdlkfnkmdlcekaaGreatDoor
open Go.RowKit Go.Cal
theorem pBlk_cells6 {g : Nat} {a b c d e f : Value} {t : TypeId} {w : World} (hp : pBlk g #[a, b, c, d, e, f] t w) : w.cell? ⟨g, 0, none⟩ = some a ∧ w.cell? ⟨g, 1, none⟩ = some b ∧ w.cell? ⟨g, 2, none⟩ = some c ∧ w.cell? ⟨g, 3, none⟩ = some d ∧ w.cell? ⟨g, 4, none⟩ = some e ∧ w.cell? ⟨g, 5, none⟩ = some f :=
  ⟨hp.cell 0 _ rfl, hp.cell 1 _ rfl, hp.cell 2 _ rfl, hp.cell 3 _ rfl, hp.cell 4 _ rfl, hp.cell 5 _ rfl⟩
theorem number_item {w : World} (it : Cal.Item) (hok : ItemOk it) {A : Option Addr} {n c : Nat} (hv : IsT w (.slice A n c) 2000 it.d) :
    Calls Tryz.prog 46 #[.agg #[.int .i64 (it.kind : Nat), .bool it.neg, .slice A n c, .int .i64 it.k, .int .i64 it.big, .bool it.cut]] w fun e w' => ∃ A5 n5 c5, e = .returned (.agg #[.bool it.neg, .slice A5 n5 c5, .int .i64 (numX it), .int .i64 (numX it)]) ∧ IsT w' (.slice A5 n5 c5) 128 (numN it) ∧ Below w.heap.size w w' := by
  unfold numX numN
  by_cases h : it.big = 0
  · rw [if_pos h, if_pos h, h]
    obtain ⟨a, b, d⟩ := hok.num h
    exact number_near it.kind it.neg it.cut it.k (IsT.isN hv) (by decide) a ⟨b, d⟩
  · rw [if_neg h, if_neg h]
    exact number_far it.kind it.neg it.cut A n c it.k it.big (by rcases hok.big with h1 | h1 | h1; exact absurd h1 h; exact .inl h1; exact .inr h1) w
theorem no_u64 (x : Int) : ∀ y ∈ (#[.int .i64 x] : Array Value).toList, ∀ n, y ≠ .int .u64 n := by simp
set_option maxRecDepth 100000 in
set_option maxHeartbeats 2000000 in
theorem parse_noword (id mode : Int) (l : List UInt8) (hl : l.length ≤ 1099511627776) (h1 : 1 ≤ id) (h2 : id < 15) (hm : ¬ (mode ≠ 1 ∧ mode ≠ 2)) (ht : (textS l).1 = true) (it : Cal.Item) (hitE : textV 1125899906842624 l = it) (hk : (it.kind : Int) = 2 ∨ (it.kind : Int) = 3 ∨ (it.kind : Int) = 4) (hwd : wordB id it.kind it.neg = false) (w : World) (hW : VaW w) :
    Calls Tryz.prog 21 #[.int .i64 id, .int .i64 mode, .string (strL l)] w fun e w' => e = .returned (.tuple #[.int .u64 0, .int .i64 (if it.neg = true then 1 else 0), .int .i64 5]) ∧ Below w.heap.size w w' := by
  have hcv := fun w => run_bytes_of_string (P := Tryz.prog) w 9 66 5 (strL l) sunder_str sunder_bytes sunder_byte
  have hsz := strL_size l
  simp only [hsz] at hcv
  have hk1 : ((it.kind : Int) != 1) = true := by rw [bne_iff_ne]; omega
  have hwn := Lib.hid (fun A n c k big cut w => word_no id h1 h2 it.kind hk it.neg cut A n c k big w hwd)
  clear hwd hk
  obtain ⟨aw, haw⟩ : ∃ x : Int, (if it.neg = true then 1 else 0) = x := ⟨_, rfl⟩
  rw [haw] at hwn ⊢
  clear haw
  rcases mode_two hm with m1 | ⟨m1, m2⟩
  all_goals
    clear hm
    skip
    have hmf : ∀ (fn : Fn) (first cap : Array Value) (w : World), (Instr.makeFunc fn first cap).run Tryz.prog w = .ok (.func fn first cap) w := fun _ _ _ _ => rfl
    have hfo := Lib.hid (fun (W : World) (hW : VaW W) => fo_of id W hW.frm h1 h2)
    have hL := parse_start w
    go_enter_defers Tryz.func21, Tryz.ntmps21
    go_wp2_with fail
    refine (hfo.out _ (hW.below hL.below)).mono ?_
    rintro e u1 ⟨rfl, hb1⟩
    have hF := pBlk_made u1 #[.int .i64 (fK id), .int .i64 (fW id), .int .i64 (fM id), .int .i64 (fB id), .int .u64 (fT id), .int .u64 (fI id), .int .u64 (fN id)] 39
    replace hL := (hL.go hb1).go ((Below.refl _ _).alloc (Nat.le_refl _) (.cells #[.int .i64 (fK id), .int .i64 (fW id), .int .i64 (fM id), .int .i64 (fB id), .int .u64 (fT id), .int .u64 (fI id), .int .u64 (fN id)] 39))
    obtain ⟨c0, c1, c2, f0, f1, f2, hlt⟩ := get_c hL
    go_wp2_with fail
    refine (qmust_yes 0 _).mono ?_
    rintro e u2 ⟨rfl, rfl⟩
    have hgF : w.heap.size + 1 + 1 < u1.heap.size := by
      have := hb1.size
      simp at this
      omega
    replace hL := set_e hL 0
    replace hF := hF.othX (g' := w.heap.size + 1 + 1) (by omega) 0 (.int .i64 0)
    clear c0 c1 c2 f0 f1 f2 hlt hb1
    obtain ⟨W1, hW1⟩ : ∃ W1, ((u1.alloc (.cells #[.int .i64 (fK id), .int .i64 (fW id), .int .i64 (fM id), .int .i64 (fB id), .int .u64 (fT id), .int .u64 (fI id), .int .u64 (fN id)] 39)).setCell ⟨w.heap.size + 1 + 1, 0, none⟩ (.int .i64 0)) = W1 := ⟨_, rfl⟩
    rw [hW1] at hL hF ⊢
    clear hW1
    obtain ⟨gF, hgE⟩ : ∃ g, u1.heap.size = g := ⟨_, rfl⟩
    rw [hgE] at hF hgF ⊢
    clear hgE
    obtain ⟨c0, c1, c2, f0, f1, f2, hlt⟩ := get_c hL
    go_wp2_with fail
    refine (scan_any l _ _ (rd_bytes1 W1 l _ _) hl).mono ?_
    rintro e w2 ⟨hcase, hb⟩
    rcases hcase with ⟨_, v, rfl, hit⟩ | ⟨h0, _⟩
    case inr => rw [ht] at h0; cases h0
    rw [hitE] at hit
    obtain ⟨A3, c3, zs, rfl, r1, r2, r3, r4, r5, -⟩ := hit
    have hv : IsT w2 (.slice A3 zs.length c3) 2000 it.d := ⟨A3, c3, zs, rfl, r1, r2, r3, r4, r5⟩
    clear r1 r2 r3 r4 r5
    obtain ⟨n3, hn3⟩ : ∃ n, zs.length = n := ⟨_, rfl⟩
    rw [hn3] at hv ⊢
    clear hn3
    have hbw : Below W1.heap.size W1 w2 := ((Below.refl _ _).alloc (Nat.le_refl _) _).drew.trans (hb.mono (by simp))
    clear hb
    have hal : Below w2.heap.size w2 (w2.alloc (.cells #[.int .i64 (it.kind : Nat), .bool it.neg, .slice A3 n3 c3, .int .i64 it.k, .int .i64 it.big, .bool it.cut] 63)) := (Below.refl _ _).alloc (Nat.le_refl _) _
    have hI := pBlk_made w2 #[.int .i64 (it.kind : Nat), .bool it.neg, .slice A3 n3 c3, .int .i64 it.k, .int .i64 it.big, .bool it.cut] 63
    replace hF := pBlk_st _ _ _ _ _ (pBlk_st _ _ _ _ _ hF hbw) hal
    replace hv := hv.below hal
    replace hL := (hL.go hbw).go hal
    have hgI : w.heap.size + 1 + 1 < w2.heap.size := by have := hbw.size; omega
    clear c0 c1 c2 f0 f1 f2 hlt hcv hsz hbw hal
    obtain ⟨gI, hgE⟩ : ∃ g, w2.heap.size = g := ⟨_, rfl⟩
    obtain ⟨c0, c1, c2, f0, f1, f2, hlt⟩ := get_c hL
    rw [hgE] at hI hgI
    have hgI' := Lib.hid hgI
    clear hgI
    go_wp2_with fail
    refine (qmust_yes 0 _).mono ?_
    rintro e u4 ⟨rfl, rfl⟩
    have hgI := hgI'.out
    replace hv := (hv.apartX (i := 0) (u := .int .i64 0) (hL.get (P := pBlk (w.heap.size + 1) #[.int .i64 0] 3) (by repeat (first | exact List.mem_cons_self | apply List.mem_cons_of_mem))) (no_u64 _))
    replace hI := hI.othX (g' := w.heap.size + 1) (by omega) 0 (.int .i64 0)
    replace hF := hF.othX (g' := w.heap.size + 1) (by omega) 0 (.int .i64 0)
    replace hL := set_a hL 0
    replace hv := (hv.apartX (i := 0) (u := .int .i64 0) (hL.get (P := pBlk (w.heap.size + 1 + 1) #[.int .i64 0] 26) (by repeat (first | exact List.mem_cons_self | apply List.mem_cons_of_mem))) (no_u64 _))
    replace hI := hI.othX (g' := w.heap.size + 1 + 1) (by omega) 0 (.int .i64 0)
    replace hF := hF.othX (g' := w.heap.size + 1 + 1) (by omega) 0 (.int .i64 0)
    replace hL := set_e hL 0
    clear c0 c1 c2 f0 f1 f2 hlt
    (try rw [hgE])
    obtain ⟨W3, hW3⟩ : ∃ W3, (((w2.alloc (.cells #[.int .i64 (it.kind : Nat), .bool it.neg, .slice A3 n3 c3, .int .i64 it.k, .int .i64 it.big, .bool it.cut] 63)).setCell ⟨w.heap.size + 1, 0, none⟩ (.int .i64 0)).setCell ⟨w.heap.size + 1 + 1, 0, none⟩ (.int .i64 0)) = W3 := ⟨_, rfl⟩
    rw [hW3] at hL hF hI hv ⊢
    clear hW3 hgE hgI'
    obtain ⟨c0, c1, c2, f0, f1, f2, hlt⟩ := get_c hL
    obtain ⟨i0, i1, i2, i3, i4, i5⟩ := pBlk_cells6 hI
    have k0 := hF.cell 0 _ rfl
    have k1 := hF.cell 1 _ rfl
    have k2 := hF.cell 2 _ rfl
    have k3 := hF.cell 3 _ rfl
    have k4 := hF.cell 4 _ rfl
    have k5 := hF.cell 5 _ rfl
    have k6 := hF.cell 6 _ rfl
    go_wp2_with fail
    refine (hwn.out _ _ _ _ _ _ _).mono ?_
    rintro e w4 ⟨rfl, hb4⟩
    replace hL := hL.go hb4
    clear c0 c1 c2 f0 f1 f2 hlt
    have p0 := hL.get (P := pBlk w.heap.size #[.int .u64 0] 22) (by repeat (first | exact List.mem_cons_self | apply List.mem_cons_of_mem))
    have p1 := hL.get (P := pBlk (w.heap.size + 1) #[.int .i64 0] 3) (by repeat (first | exact List.mem_cons_self | apply List.mem_cons_of_mem))
    have p2 := hL.get (P := pBlk (w.heap.size + 1 + 1) #[.int .i64 0] 26) (by repeat (first | exact List.mem_cons_self | apply List.mem_cons_of_mem))
    have hbl := hL.below
    clear hL
    go_wp2
    refine leaves_cons (f := 43) (args := #[.pointer (some ⟨w.heap.size, 0, none⟩), .pointer (some ⟨w.heap.size + 1, 0, none⟩), .pointer (some ⟨w.heap.size + 1 + 1, 0, none⟩)]) (by simp) (by simp [go_sem]) ?_
    refine (qcatch_thrown w.heap.size aw 5 [] _ p0 p1 p2).mono ?_
    rintro e1 u8 w8 ⟨rfl, rfl, pd0, pd1, pd2, hb8⟩
    have y0 := pd0.cell 0 _ rfl
    have y1 := pd1.cell 0 _ rfl
    have y2 := pd2.cell 0 _ rfl
    have hbf := hbl.trans hb8
    clear p0 p1 p2 pd0 pd1 pd2
    simp [Leaves, settle, results, Tryz.results21, go_sem, y0, y1, y2]
    exact hbf
set_option maxRecDepth 100000 in
set_option maxHeartbeats 2000000 in
theorem parse_word (id mode : Int) (l : List UInt8) (hl : l.length ≤ 1099511627776) (h1 : 1 ≤ id) (h2 : id < 15) (hm : ¬ (mode ≠ 1 ∧ mode ≠ 2)) (ht : (textS l).1 = true) (it : Cal.Item) (hitE : textV 1125899906842624 l = it) (hk : (it.kind : Int) = 2 ∨ (it.kind : Int) = 3 ∨ (it.kind : Int) = 4) (hwd : wordB id it.kind it.neg = true) (w : World) (hW : VaW w) :
    Calls Tryz.prog 21 #[.int .i64 id, .int .i64 mode, .string (strL l)] w fun e w' => e = .returned (.tuple #[.int .u64 (wordP id it.kind it.neg), .int .i64 0, .int .i64 0]) ∧ Below w.heap.size w w' := by
  have hcv := fun w => run_bytes_of_string (P := Tryz.prog) w 9 66 5 (strL l) sunder_str sunder_bytes sunder_byte
  have hsz := strL_size l
  simp only [hsz] at hcv
  have hk1 : ((it.kind : Int) != 1) = true := by rw [bne_iff_ne]; omega
  have hwn := Lib.hid (fun A n c k big cut w => word_yes id h1 h2 it.kind hk it.neg cut A n c k big w hwd)
  clear hwd hk
  rcases mode_two hm with m1 | ⟨m1, m2⟩
  all_goals
    clear hm
    skip
    have hmf : ∀ (fn : Fn) (first cap : Array Value) (w : World), (Instr.makeFunc fn first cap).run Tryz.prog w = .ok (.func fn first cap) w := fun _ _ _ _ => rfl
    have hfo := Lib.hid (fun (W : World) (hW : VaW W) => fo_of id W hW.frm h1 h2)
    have hL := parse_start w
    go_enter_defers Tryz.func21, Tryz.ntmps21
    go_wp2_with fail
    refine (hfo.out _ (hW.below hL.below)).mono ?_
    rintro e u1 ⟨rfl, hb1⟩
    have hF := pBlk_made u1 #[.int .i64 (fK id), .int .i64 (fW id), .int .i64 (fM id), .int .i64 (fB id), .int .u64 (fT id), .int .u64 (fI id), .int .u64 (fN id)] 39
    replace hL := (hL.go hb1).go ((Below.refl _ _).alloc (Nat.le_refl _) (.cells #[.int .i64 (fK id), .int .i64 (fW id), .int .i64 (fM id), .int .i64 (fB id), .int .u64 (fT id), .int .u64 (fI id), .int .u64 (fN id)] 39))
    obtain ⟨c0, c1, c2, f0, f1, f2, hlt⟩ := get_c hL
    go_wp2_with fail
    refine (qmust_yes 0 _).mono ?_
    rintro e u2 ⟨rfl, rfl⟩
    have hgF : w.heap.size + 1 + 1 < u1.heap.size := by
      have := hb1.size
      simp at this
      omega
    replace hL := set_e hL 0
    replace hF := hF.othX (g' := w.heap.size + 1 + 1) (by omega) 0 (.int .i64 0)
    clear c0 c1 c2 f0 f1 f2 hlt hb1
    obtain ⟨W1, hW1⟩ : ∃ W1, ((u1.alloc (.cells #[.int .i64 (fK id), .int .i64 (fW id), .int .i64 (fM id), .int .i64 (fB id), .int .u64 (fT id), .int .u64 (fI id), .int .u64 (fN id)] 39)).setCell ⟨w.heap.size + 1 + 1, 0, none⟩ (.int .i64 0)) = W1 := ⟨_, rfl⟩
    rw [hW1] at hL hF ⊢
    clear hW1
    obtain ⟨gF, hgE⟩ : ∃ g, u1.heap.size = g := ⟨_, rfl⟩
    rw [hgE] at hF hgF ⊢
    clear hgE
    obtain ⟨c0, c1, c2, f0, f1, f2, hlt⟩ := get_c hL
    go_wp2_with fail
    refine (scan_any l _ _ (rd_bytes1 W1 l _ _) hl).mono ?_
    rintro e w2 ⟨hcase, hb⟩
    rcases hcase with ⟨_, v, rfl, hit⟩ | ⟨h0, _⟩
    case inr => rw [ht] at h0; cases h0
    rw [hitE] at hit
    obtain ⟨A3, c3, zs, rfl, r1, r2, r3, r4, r5, -⟩ := hit
    have hv : IsT w2 (.slice A3 zs.length c3) 2000 it.d := ⟨A3, c3, zs, rfl, r1, r2, r3, r4, r5⟩
    clear r1 r2 r3 r4 r5
    obtain ⟨n3, hn3⟩ : ∃ n, zs.length = n := ⟨_, rfl⟩
    rw [hn3] at hv ⊢
    clear hn3
    have hbw : Below W1.heap.size W1 w2 := ((Below.refl _ _).alloc (Nat.le_refl _) _).drew.trans (hb.mono (by simp))
    clear hb
    have hal : Below w2.heap.size w2 (w2.alloc (.cells #[.int .i64 (it.kind : Nat), .bool it.neg, .slice A3 n3 c3, .int .i64 it.k, .int .i64 it.big, .bool it.cut] 63)) := (Below.refl _ _).alloc (Nat.le_refl _) _
    have hI := pBlk_made w2 #[.int .i64 (it.kind : Nat), .bool it.neg, .slice A3 n3 c3, .int .i64 it.k, .int .i64 it.big, .bool it.cut] 63
    replace hF := pBlk_st _ _ _ _ _ (pBlk_st _ _ _ _ _ hF hbw) hal
    replace hv := hv.below hal
    replace hL := (hL.go hbw).go hal
    have hgI : w.heap.size + 1 + 1 < w2.heap.size := by have := hbw.size; omega
    clear c0 c1 c2 f0 f1 f2 hlt hcv hsz hbw hal
    obtain ⟨gI, hgE⟩ : ∃ g, w2.heap.size = g := ⟨_, rfl⟩
    obtain ⟨c0, c1, c2, f0, f1, f2, hlt⟩ := get_c hL
    rw [hgE] at hI hgI
    have hgI' := Lib.hid hgI
    clear hgI
    go_wp2_with fail
    refine (qmust_yes 0 _).mono ?_
    rintro e u4 ⟨rfl, rfl⟩
    have hgI := hgI'.out
    replace hv := (hv.apartX (i := 0) (u := .int .i64 0) (hL.get (P := pBlk (w.heap.size + 1) #[.int .i64 0] 3) (by repeat (first | exact List.mem_cons_self | apply List.mem_cons_of_mem))) (no_u64 _))
    replace hI := hI.othX (g' := w.heap.size + 1) (by omega) 0 (.int .i64 0)
    replace hF := hF.othX (g' := w.heap.size + 1) (by omega) 0 (.int .i64 0)
    replace hL := set_a hL 0
    replace hv := (hv.apartX (i := 0) (u := .int .i64 0) (hL.get (P := pBlk (w.heap.size + 1 + 1) #[.int .i64 0] 26) (by repeat (first | exact List.mem_cons_self | apply List.mem_cons_of_mem))) (no_u64 _))
    replace hI := hI.othX (g' := w.heap.size + 1 + 1) (by omega) 0 (.int .i64 0)
    replace hF := hF.othX (g' := w.heap.size + 1 + 1) (by omega) 0 (.int .i64 0)
    replace hL := set_e hL 0
    clear c0 c1 c2 f0 f1 f2 hlt
    (try rw [hgE])
    obtain ⟨W3, hW3⟩ : ∃ W3, (((w2.alloc (.cells #[.int .i64 (it.kind : Nat), .bool it.neg, .slice A3 n3 c3, .int .i64 it.k, .int .i64 it.big, .bool it.cut] 63)).setCell ⟨w.heap.size + 1, 0, none⟩ (.int .i64 0)).setCell ⟨w.heap.size + 1 + 1, 0, none⟩ (.int .i64 0)) = W3 := ⟨_, rfl⟩
    rw [hW3] at hL hF hI hv ⊢
    clear hW3 hgE hgI'
    obtain ⟨c0, c1, c2, f0, f1, f2, hlt⟩ := get_c hL
    obtain ⟨i0, i1, i2, i3, i4, i5⟩ := pBlk_cells6 hI
    have k0 := hF.cell 0 _ rfl
    have k1 := hF.cell 1 _ rfl
    have k2 := hF.cell 2 _ rfl
    have k3 := hF.cell 3 _ rfl
    have k4 := hF.cell 4 _ rfl
    have k5 := hF.cell 5 _ rfl
    have k6 := hF.cell 6 _ rfl
    go_wp2_with fail
    refine (hwn.out _ _ _ _ _ _ _).mono ?_
    rintro e w4 ⟨rfl, hb4⟩
    replace hL := hL.go hb4
    clear c0 c1 c2 f0 f1 f2 hlt
    obtain ⟨c0, c1, c2, f0, f1, f2, hlt⟩ := get_c hL
    have hL4 := set_e (set_a (set_p hL (wordP id it.kind it.neg)) 0) 0
    obtain ⟨d0, d1, d2, -⟩ := get_c hL4
    go_wp2
    show Leaves _ _ _ _ _ .returning _
    refine leaves_cons (f := 43) (args := #[.pointer (some ⟨w.heap.size, 0, none⟩), .pointer (some ⟨w.heap.size + 1, 0, none⟩), .pointer (some ⟨w.heap.size + 1 + 1, 0, none⟩)]) (by simp) (by simp [go_sem]) ?_
    refine (qcatch_idle w.heap.size _).mono ?_
    rintro e1 u8 w8 ⟨rfl, rfl, rfl⟩
    simp [Leaves, settle, results, Tryz.results21, go_sem, d0, d1, d2]
    exact hL4.below
set_option maxRecDepth 100000 in
set_option maxHeartbeats 2000000 in
theorem parse_num (id mode : Int) (l : List UInt8) (hl : l.length ≤ 1099511627776) (h1 : 1 ≤ id) (h2 : id < 15) (hm : ¬ (mode ≠ 1 ∧ mode ≠ 2)) (ht : (textS l).1 = true) (it : Cal.Item) (hitE : textV 1125899906842624 l = it) (hk : it.kind = 1) (hok : ItemOk it) (w : World) (hW : VaW w) :
    Calls Tryz.prog 21 #[.int .i64 id, .int .i64 mode, .string (strL l)] w fun e w' => e = .returned (.tuple #[.int .u64 (roundP id mode it.neg (exP (numN it) (numX it) (numX it)) (exQ (numX it) (numX it))), .int .i64 0, .int .i64 0]) ∧ Below w.heap.size w w' := by
  have hcv := fun w => run_bytes_of_string (P := Tryz.prog) w 9 66 5 (strL l) sunder_str sunder_bytes sunder_byte
  have hsz := strL_size l
  simp only [hsz] at hcv
  have hk1 : ((it.kind : Int) != 1) = false := by rw [hk]; rfl
  have hE : roundE id mode = 0 := by unfold roundE; rw [if_neg (by omega), if_neg hm]
  have hX : -5000 ≤ numX it ∧ numX it ≤ 5000 := by
    unfold numX
    split
    · rename_i hz
      exact (hok.num hz).2
    · rcases hok.big with h | h | h
      · contradiction
      · rw [h]; decide
      · rw [h]; decide
  have hnb := Lib.hid (fun (W : World) A n c (hv : IsT W (.slice A n c) 2000 it.d) => number_item it hok hv)
  have hrd := Lib.hid (fun (W : World) A n c (hW : VaW W) (hv : IsT W (.slice A n c) 128 (numN it)) => rround_any id mode it.neg (numX it) (numX it) hW hv hX hX)
  have hRR : roundR id mode it.neg (exP (numN it) (numX it) (numX it)) (exQ (numX it) (numX it)) = roundP id mode it.neg (exP (numN it) (numX it) (numX it)) (exQ (numX it) (numX it)) := by unfold roundR; rw [if_pos hE]
  rw [hRR, hE] at hrd
  generalize roundP id mode it.neg (exP (numN it) (numX it) (numX it)) (exQ (numX it) (numX it)) = rp at hrd ⊢
  clear hE hRR hX hok
  replace hk := Lib.hid hk
  rcases mode_two hm with m1 | ⟨m1, m2⟩
  all_goals
    clear hm
    skip
    have hmf : ∀ (fn : Fn) (first cap : Array Value) (w : World), (Instr.makeFunc fn first cap).run Tryz.prog w = .ok (.func fn first cap) w := fun _ _ _ _ => rfl
    have hfo := Lib.hid (fun (W : World) (hW : VaW W) => fo_of id W hW.frm h1 h2)
    have hL := parse_start w
    go_enter_defers Tryz.func21, Tryz.ntmps21
    go_wp2_with fail
    refine (hfo.out _ (hW.below hL.below)).mono ?_
    rintro e u1 ⟨rfl, hb1⟩
    have hF := pBlk_made u1 #[.int .i64 (fK id), .int .i64 (fW id), .int .i64 (fM id), .int .i64 (fB id), .int .u64 (fT id), .int .u64 (fI id), .int .u64 (fN id)] 39
    replace hL := (hL.go hb1).go ((Below.refl _ _).alloc (Nat.le_refl _) (.cells #[.int .i64 (fK id), .int .i64 (fW id), .int .i64 (fM id), .int .i64 (fB id), .int .u64 (fT id), .int .u64 (fI id), .int .u64 (fN id)] 39))
    obtain ⟨c0, c1, c2, f0, f1, f2, hlt⟩ := get_c hL
    go_wp2_with fail
    refine (qmust_yes 0 _).mono ?_
    rintro e u2 ⟨rfl, rfl⟩
    have hgF : w.heap.size + 1 + 1 < u1.heap.size := by
      have := hb1.size
      simp at this
      omega
    replace hL := set_e hL 0
    replace hF := hF.othX (g' := w.heap.size + 1 + 1) (by omega) 0 (.int .i64 0)
    clear c0 c1 c2 f0 f1 f2 hlt hb1
    obtain ⟨W1, hW1⟩ : ∃ W1, ((u1.alloc (.cells #[.int .i64 (fK id), .int .i64 (fW id), .int .i64 (fM id), .int .i64 (fB id), .int .u64 (fT id), .int .u64 (fI id), .int .u64 (fN id)] 39)).setCell ⟨w.heap.size + 1 + 1, 0, none⟩ (.int .i64 0)) = W1 := ⟨_, rfl⟩
    rw [hW1] at hL hF ⊢
    clear hW1
    obtain ⟨gF, hgE⟩ : ∃ g, u1.heap.size = g := ⟨_, rfl⟩
    rw [hgE] at hF hgF ⊢
    clear hgE
    obtain ⟨c0, c1, c2, f0, f1, f2, hlt⟩ := get_c hL
    go_wp2_with fail
    refine (scan_any l _ _ (rd_bytes1 W1 l _ _) hl).mono ?_
    rintro e w2 ⟨hcase, hb⟩
    rcases hcase with ⟨_, v, rfl, hit⟩ | ⟨h0, _⟩
    case inr => rw [ht] at h0; cases h0
    rw [hitE] at hit
    obtain ⟨A3, c3, zs, rfl, r1, r2, r3, r4, r5, -⟩ := hit
    have hv : IsT w2 (.slice A3 zs.length c3) 2000 it.d := ⟨A3, c3, zs, rfl, r1, r2, r3, r4, r5⟩
    clear r1 r2 r3 r4 r5
    obtain ⟨n3, hn3⟩ : ∃ n, zs.length = n := ⟨_, rfl⟩
    rw [hn3] at hv ⊢
    clear hn3
    have hbw : Below W1.heap.size W1 w2 := ((Below.refl _ _).alloc (Nat.le_refl _) _).drew.trans (hb.mono (by simp))
    clear hb
    have hal : Below w2.heap.size w2 (w2.alloc (.cells #[.int .i64 (it.kind : Nat), .bool it.neg, .slice A3 n3 c3, .int .i64 it.k, .int .i64 it.big, .bool it.cut] 63)) := (Below.refl _ _).alloc (Nat.le_refl _) _
    have hI := pBlk_made w2 #[.int .i64 (it.kind : Nat), .bool it.neg, .slice A3 n3 c3, .int .i64 it.k, .int .i64 it.big, .bool it.cut] 63
    replace hF := pBlk_st _ _ _ _ _ (pBlk_st _ _ _ _ _ hF hbw) hal
    replace hv := hv.below hal
    replace hL := (hL.go hbw).go hal
    have hgI : w.heap.size + 1 + 1 < w2.heap.size := by have := hbw.size; omega
    clear c0 c1 c2 f0 f1 f2 hlt hcv hsz hbw hal
    obtain ⟨gI, hgE⟩ : ∃ g, w2.heap.size = g := ⟨_, rfl⟩
    obtain ⟨c0, c1, c2, f0, f1, f2, hlt⟩ := get_c hL
    rw [hgE] at hI hgI
    have hgI' := Lib.hid hgI
    clear hgI
    go_wp2_with fail
    refine (qmust_yes 0 _).mono ?_
    rintro e u4 ⟨rfl, rfl⟩
    have hgI := hgI'.out
    replace hv := (hv.apartX (i := 0) (u := .int .i64 0) (hL.get (P := pBlk (w.heap.size + 1) #[.int .i64 0] 3) (by repeat (first | exact List.mem_cons_self | apply List.mem_cons_of_mem))) (no_u64 _))
    replace hI := hI.othX (g' := w.heap.size + 1) (by omega) 0 (.int .i64 0)
    replace hF := hF.othX (g' := w.heap.size + 1) (by omega) 0 (.int .i64 0)
    replace hL := set_a hL 0
    replace hv := (hv.apartX (i := 0) (u := .int .i64 0) (hL.get (P := pBlk (w.heap.size + 1 + 1) #[.int .i64 0] 26) (by repeat (first | exact List.mem_cons_self | apply List.mem_cons_of_mem))) (no_u64 _))
    replace hI := hI.othX (g' := w.heap.size + 1 + 1) (by omega) 0 (.int .i64 0)
    replace hF := hF.othX (g' := w.heap.size + 1 + 1) (by omega) 0 (.int .i64 0)
    replace hL := set_e hL 0
    clear c0 c1 c2 f0 f1 f2 hlt
    (try rw [hgE])
    obtain ⟨W3, hW3⟩ : ∃ W3, (((w2.alloc (.cells #[.int .i64 (it.kind : Nat), .bool it.neg, .slice A3 n3 c3, .int .i64 it.k, .int .i64 it.big, .bool it.cut] 63)).setCell ⟨w.heap.size + 1, 0, none⟩ (.int .i64 0)).setCell ⟨w.heap.size + 1 + 1, 0, none⟩ (.int .i64 0)) = W3 := ⟨_, rfl⟩
    rw [hW3] at hL hF hI hv ⊢
    clear hW3 hgE hgI'
    obtain ⟨c0, c1, c2, f0, f1, f2, hlt⟩ := get_c hL
    obtain ⟨i0, i1, i2, i3, i4, i5⟩ := pBlk_cells6 hI
    have k0 := hF.cell 0 _ rfl
    have k1 := hF.cell 1 _ rfl
    have k2 := hF.cell 2 _ rfl
    have k3 := hF.cell 3 _ rfl
    have k4 := hF.cell 4 _ rfl
    have k5 := hF.cell 5 _ rfl
    have k6 := hF.cell 6 _ rfl
    go_wp2_with fail
    refine (hnb.out _ _ _ _ hv).mono ?_
    rintro e w4 ⟨A5, n5, c5, rfl, hv5, hb4⟩
    replace hL := hL.go hb4
    clear c0 c1 c2 f0 f1 f2 hlt i0 i1 i2 i3 i4 i5 k0 k1 k2 k3 k4 k5 k6 hv hI hF
    obtain ⟨c0, c1, c2, f0, f1, f2, hlt⟩ := get_c hL
    go_wp2_with fail
    refine (hrd.out _ _ _ _ (hW.below hL.below) hv5).mono ?_
    rintro e w5 ⟨rfl, hb5⟩
    replace hL := hL.go hb5
    clear c0 c1 c2 f0 f1 f2 hlt
    obtain ⟨c0, c1, c2, f0, f1, f2, hlt⟩ := get_c hL
    go_wp2_with fail
    refine (qmust_yes 0 _).mono ?_
    rintro e u6 ⟨rfl, rfl⟩
    replace hL := set_e (set_p hL rp) 0
    clear c0 c1 c2 f0 f1 f2 hlt
    obtain ⟨W6, hW6⟩ : ∃ W, ((w5.setCell ⟨w.heap.size, 0, none⟩ (.int .u64 rp)).setCell ⟨w.heap.size + 1 + 1, 0, none⟩ (.int .i64 0)) = W := ⟨_, rfl⟩
    rw [hW6] at hL ⊢
    clear hW6
    obtain ⟨c0, c1, c2, f0, f1, f2, hlt⟩ := get_c hL
    have hL4 := set_e (set_a (set_p hL rp) 0) 0
    obtain ⟨d0, d1, d2, -⟩ := get_c hL4
    go_wp2
    show Leaves _ _ _ _ _ .returning _
    refine leaves_cons (f := 43) (args := #[.pointer (some ⟨w.heap.size, 0, none⟩), .pointer (some ⟨w.heap.size + 1, 0, none⟩), .pointer (some ⟨w.heap.size + 1 + 1, 0, none⟩)]) (by simp) (by simp [go_sem]) ?_
    refine (qcatch_idle w.heap.size _).mono ?_
    rintro e1 u8 w8 ⟨rfl, rfl, rfl⟩
    simp [Leaves, settle, results, Tryz.results21, go_sem, d0, d1, d2]
    exact hL4.below
end Go.Proofs.YtdlkfnkmdlcekaaGreatDoor
namespace Go.Proofs.YtdlkfnkmdlcekaaGreatDoor
open Go.RowKit Go.Cal
theorem ptext_any (id mode : Int) (l : List UInt8) (hl : l.length ≤ 1099511627776) (w : World) (hW : VaW w) :
    Calls Tryz.prog 21 #[.int .i64 id, .int .i64 mode, .string (strL l)] w fun e w' => e = .returned (.tuple #[.int .u64 (parV id mode l).1, .int .i64 (parV id mode l).2.1, .int .i64 (parV id mode l).2.2]) ∧ Below w.heap.size w w' := by
  by_cases hid : id < 1 ∨ 15 ≤ id
  · have hE : roundE id mode = 3 := by unfold roundE; rw [if_pos hid]
    have hV : parV id mode l = (0, 0, 3) := by unfold parV; rw [if_pos (by rw [hE]; decide), hE]
    rw [hV]
    exact parse_form id mode (strL l) hid w
  · have h1 : 1 ≤ id := by omega
    have h2 : id < 15 := by omega
    by_cases hm : mode ≠ 1 ∧ mode ≠ 2
    · have hE : roundE id mode = 1 := by unfold roundE; rw [if_neg hid, if_pos hm]
      have hV : parV id mode l = (0, 0, 1) := by unfold parV; rw [if_pos (by rw [hE]; decide), hE]
      rw [hV]
      exact parse_mode id mode (strL l) h1 h2 (by simp [hm.1]) (by simp [hm.2]) w hW
    · have hE : roundE id mode = 0 := by unfold roundE; rw [if_neg hid, if_neg hm]
      cases ht : (textS l).1 with
      | false =>
        have hV : parV id mode l = (0, (((textS l).2 : Nat) : Int), 2) := by unfold parV; rw [if_neg (by rw [hE]; decide), if_pos ht]
        rw [hV]
        exact parse_bad id mode l hl h1 h2 hm ht w hW
      | true =>
        have hV : parV id mode l = parI id mode (textV 1125899906842624 l) := by unfold parV; rw [if_neg (by rw [hE]; decide), if_neg (by rw [ht]; decide)]
        rw [hV]
        have hit := text_item 1125899906842624 l
        obtain ⟨it, hitE⟩ : ∃ it, textV 1125899906842624 l = it := ⟨_, rfl⟩
        rw [hitE] at hit ⊢
        unfold parI
        rcases hit with ⟨hk, hok⟩ | hk
        · rw [if_pos hk]
          exact parse_num id mode l hl h1 h2 hm ht it hitE hk hok w hW
        · have hk1 : it.kind ≠ 1 := by omega
          rw [if_neg hk1]
          cases hb : wordB id it.kind it.neg with
          | true =>
            rw [if_pos rfl]
            exact parse_word id mode l hl h1 h2 hm ht it hitE (by omega) hb w hW
          | false =>
            rw [if_neg (by decide)]
            exact parse_noword id mode l hl h1 h2 hm ht it hitE (by omega) hb w hW
end Go.Proofs.YtdlkfnkmdlcekaaGreatDoor
namespace Go.Proofs.YtdlkfnkmdlcekaaGreatDoor
open Go.RowKit Go.Cal
theorem ptext_is (id mode : Int) (l : List UInt8) (s : ByteArray) (p a e : Int) (hs : strL l = s) (hl : l.length ≤ 1000) (hv : parV id mode l = (p, a, e)) {w : World} (hW : VaW w) :
    Calls Tryz.prog 21 #[.int .i64 id, .int .i64 mode, .string s] w fun x w' => x = .returned (.tuple #[.int .u64 p, .int .i64 a, .int .i64 e]) ∧ Below w.heap.size w w' := by
  subst hs
  have := ptext_any id mode l (by omega) w hW
  rw [hv] at this
  exact this
theorem pof_is (id : Int) (l : List UInt8) (s : ByteArray) (p : Int) (hs : strL l = s) (hl : l.length ≤ 1000) (hv : parV id 2 l = (p, 0, 0)) {w : World} (hW : VaW w) :
    Calls Tryz.prog 42 #[.int .i64 id, .string s] w fun x w' => x = .returned (.int .u64 p) ∧ Below w.heap.size w w' := by
  have hp := Lib.hid (ptext_is id 2 l s p 0 0 hs hl hv hW)
  clear hs hv
  go_enter Tryz.func42, Tryz.ntmps42
  go_wp2_with fail
  refine hp.out.mono ?_
  rintro e w1 ⟨rfl, hb⟩
  go_wp2
  go_ret
  exact ⟨rfl, hb⟩
theorem pv1 : parV 7 1 [45, 105, 110, 102] = (0, 1, 5) := by decide +kernel
theorem pv2 : parV 1 2 [49, 46, 53, 120] = (0, 3, 2) := by decide +kernel
theorem pv3 : parV 99 2 [120] = (0, 0, 3) := by decide +kernel
theorem pv4 : parV 1 3 [120] = (0, 0, 1) := by decide +kernel
theorem pv5 : parV 1 2 [45, 78, 97, 82] = (0, 1, 5) := by decide +kernel
theorem pv6 : parV 5 2 [52, 54, 52] = (126, 0, 0) := by decide +kernel
theorem pv7 : parV 5 2 [52, 54, 52, 46, 49] = (127, 0, 0) := by decide +kernel
theorem pv8 : parV 1 2 [49, 101, 45, 57, 57] = (1, 0, 0) := by decide +kernel
theorem pv9 : parV 1 2 [45, 49, 101, 57, 57, 57, 57] = (129, 0, 0) := by decide +kernel
theorem pv10 : parV 1 2 [78, 97, 82] = (128, 0, 0) := by decide +kernel
theorem pv11 : parV 6 2 [45, 105, 110, 102] = (252, 0, 0) := by decide +kernel
theorem pv12 : parV 6 2 [45, 110, 97, 110] = (126, 0, 0) := by decide +kernel
theorem pv13 : parV 14 2 [48, 46, 49] = (4591870180066957722, 0, 0) := by decide +kernel
theorem pv14 : parV 13 2 [45, 48] = (2147483648, 0, 0) := by decide +kernel
theorem pv15 : parV 10 2 [45, 50] = (128, 0, 0) := by decide +kernel
set_option maxRecDepth 100000 in
set_option maxHeartbeats 2000000 in
theorem pshown_any (w : World) (hW : VaW w) : Calls Tryz.prog 19 #[] w fun e w' => e = .returned (.bool true) ∧ Below w.heap.size w w' := by
  have h0 := LiveP.start w
  go_enter Tryz.func19, Tryz.ntmps19
  go_wp2_with fail
  refine (ptext_is 7 1 [45, 105, 110, 102] _ _ _ _ rfl (by decide) pv1 (hW.below h0.below)).mono ?_
  rintro e w1 ⟨rfl, hb1⟩
  have h1 := h0.go hb1
  go_wp2_with fail
  refine (ptext_is 1 2 [49, 46, 53, 120] _ _ _ _ rfl (by decide) pv2 (hW.below h1.below)).mono ?_
  rintro e w2 ⟨rfl, hb2⟩
  have h2 := h1.go hb2
  go_wp2_with fail
  refine (ptext_is 99 2 [120] _ _ _ _ rfl (by decide) pv3 (hW.below h2.below)).mono ?_
  rintro e w3 ⟨rfl, hb3⟩
  have h3 := h2.go hb3
  go_wp2_with fail
  refine (ptext_is 1 3 [120] _ _ _ _ rfl (by decide) pv4 (hW.below h3.below)).mono ?_
  rintro e w4 ⟨rfl, hb4⟩
  have h4 := h3.go hb4
  go_wp2_with fail
  refine (ptext_is 1 2 [45, 78, 97, 82] _ _ _ _ rfl (by decide) pv5 (hW.below h4.below)).mono ?_
  rintro e w5 ⟨rfl, hb5⟩
  have h5 := h4.go hb5
  go_wp2_with fail
  refine (pof_is 5 [52, 54, 52] _ _ rfl (by decide) pv6 (hW.below h5.below)).mono ?_
  rintro e w6 ⟨rfl, hb6⟩
  have h6 := h5.go hb6
  go_wp2_with fail
  refine (pof_is 5 [52, 54, 52, 46, 49] _ _ rfl (by decide) pv7 (hW.below h6.below)).mono ?_
  rintro e w7 ⟨rfl, hb7⟩
  have h7 := h6.go hb7
  go_wp2_with fail
  refine (pof_is 1 [49, 101, 45, 57, 57] _ _ rfl (by decide) pv8 (hW.below h7.below)).mono ?_
  rintro e w8 ⟨rfl, hb8⟩
  have h8 := h7.go hb8
  go_wp2_with fail
  refine (pof_is 1 [45, 49, 101, 57, 57, 57, 57] _ _ rfl (by decide) pv9 (hW.below h8.below)).mono ?_
  rintro e w9 ⟨rfl, hb9⟩
  have h9 := h8.go hb9
  go_wp2_with fail
  refine (pof_is 1 [78, 97, 82] _ _ rfl (by decide) pv10 (hW.below h9.below)).mono ?_
  rintro e w10 ⟨rfl, hb10⟩
  have h10 := h9.go hb10
  go_wp2_with fail
  refine (pof_is 6 [45, 105, 110, 102] _ _ rfl (by decide) pv11 (hW.below h10.below)).mono ?_
  rintro e w11 ⟨rfl, hb11⟩
  have h11 := h10.go hb11
  go_wp2_with fail
  refine (pof_is 6 [45, 110, 97, 110] _ _ rfl (by decide) pv12 (hW.below h11.below)).mono ?_
  rintro e w12 ⟨rfl, hb12⟩
  have h12 := h11.go hb12
  go_wp2_with fail
  refine (pof_is 14 [48, 46, 49] _ _ rfl (by decide) pv13 (hW.below h12.below)).mono ?_
  rintro e w13 ⟨rfl, hb13⟩
  have h13 := h12.go hb13
  go_wp2_with fail
  refine (pof_is 13 [45, 48] _ _ rfl (by decide) pv14 (hW.below h13.below)).mono ?_
  rintro e w14 ⟨rfl, hb14⟩
  have h14 := h13.go hb14
  go_wp2_with fail
  refine (pof_is 10 [45, 50] _ _ rfl (by decide) pv15 (hW.below h14.below)).mono ?_
  rintro e w15 ⟨rfl, hb15⟩
  have h15 := h14.go hb15
  go_wp2_with fail
  go_ret
  exact ⟨rfl, h15.below⟩
end Go.Proofs.YtdlkfnkmdlcekaaGreatDoor
namespace Go.Proofs.YtdlkfnkmdlcekaaGreatDoor
open Go.RowKit Go.Cal
theorem word_canon {id kd : Int} {neg : Bool} (h1 : 1 ≤ id) (h2 : id < 15) (hk : kd = 2 ∨ kd = 3 ∨ kd = 4) (hb : wordB id kd neg = true) : fitsV id (wordP id kd neg) = 0 ∧ canonV id (wordP id kd neg) = wordP id kd neg ∧ 0 ≤ wordP id kd neg := by
  rcases hk with rfl | rfl | rfl <;> rcases id_cases h1 h2 with rfl | rfl | rfl | rfl | rfl | rfl | rfl | rfl | rfl | rfl | rfl | rfl | rfl | rfl <;> cases neg <;> first | decide +kernel | (exact absurd hb (by decide +kernel))
theorem text_neg1 {C : Nat} {l : List UInt8} (h : (textV C l).neg = true) : 1 ≤ l.length := by
  unfold textV at h
  split at h
  · simp
  · rw [(body_item C false _).1] at h; cases h
/-- What Parse tells, by cases. -/
theorem par_fits (id mode : Int) (l : List UInt8) (hle : (textS l).1 = false → (textS l).2 ≤ l.length) (hr : ∀ (neg : Bool) (P Q : Nat), roundE id mode = 0 → 0 ≤ roundP id mode neg P Q) :
    ((parV id mode l).2.2 ≠ 0 ∧ (parV id mode l).1 = 0 ∧ 0 ≤ (parV id mode l).2.1 ∧ (parV id mode l).2.1 ≤ l.length ∧ ((parV id mode l).2.1 = 0 ∨ (parV id mode l).2.2 = 2 ∨ ((parV id mode l).2.2 = 5 ∧ (parV id mode l).2.1 = 1))) ∨
    ((parV id mode l).2.2 = 0 ∧ (parV id mode l).2.1 = 0 ∧ fitsV id (parV id mode l).1 = 0 ∧ canonV id (parV id mode l).1 = (parV id mode l).1 ∧ 0 ≤ (parV id mode l).1) := by
  unfold parV
  by_cases hE : roundE id mode ≠ 0
  · rw [if_pos hE]
    exact .inl ⟨hE, rfl, Int.le_refl _, Int.natCast_nonneg _, .inl rfl⟩
  · rw [if_neg hE]
    have hE0 : roundE id mode = 0 := Classical.byContradiction hE
    have hid : 1 ≤ id ∧ id < 15 := by
      unfold roundE at hE0
      split at hE0
      · omega
      · omega
    by_cases ht : (textS l).1 = false
    · rw [if_pos ht]
      have hle' := hle ht
      exact .inl ⟨(by decide : (2 : Int) ≠ 0), rfl, Int.natCast_nonneg _, by show (((textS l).2 : Nat) : Int) ≤ _; omega, .inr (.inl rfl)⟩
    · rw [if_neg ht]
      unfold parI
      have hit := text_item 1125899906842624 l
      have hn := text_neg1 (C := 1125899906842624) (l := l)
      generalize textV 1125899906842624 l = it at hit hn ⊢
      by_cases hk : it.kind = 1
      · rw [if_pos hk]
        obtain ⟨a, b⟩ := round_canon (neg := it.neg) (P := exP (numN it) (numX it) (numX it)) (Q := exQ (numX it) (numX it)) hE0
        exact .inr ⟨rfl, rfl, a, b, hr _ _ _ hE0⟩
      · rw [if_neg hk]
        cases hb : wordB id it.kind it.neg with
        | true =>
          rw [if_pos rfl]
          obtain ⟨a, b, c⟩ := word_canon hid.1 hid.2 (by omega) hb
          exact .inr ⟨rfl, rfl, a, b, c⟩
        | false =>
          rw [if_neg (by decide)]
          left
          refine ⟨(by decide : (5 : Int) ≠ 0), rfl, ?_, ?_, ?_⟩
          · show (0 : Int) ≤ (if it.neg = true then 1 else 0)
            split <;> decide
          · show (if it.neg = true then (1 : Int) else 0) ≤ _
            split
            · rename_i h; have := hn h; omega
            · omega
          · show (if it.neg = true then (1 : Int) else 0) = 0 ∨ _
            split
            · exact .inr (.inr ⟨rfl, rfl⟩)
            · exact .inl rfl
theorem round_nat {id mode : Int} {neg : Bool} {P Q : Nat} (hE : roundE id mode = 0) : 0 ≤ roundP id mode neg P Q := by
  have hid : 1 ≤ id ∧ id < 15 := by
    unfold roundE at hE
    split at hE <;> omega
  unfold roundP
  split
  · exact (ft_bounds id).2.2.2.2.2.1
  · rename_i h4
    have hm : mostE id neg = 0 := by
      unfold mostE
      rw [if_neg (by omega), if_neg (fun h => h4 ⟨h.2, .inl h.1⟩)]
    have hb := mostV_bnd id neg
    split
    · unfold largeV
      have hf := ft_bounds id
      split
      · exact (pat_bnd hm (by omega) (Int.le_refl _)).1
      · split
        · exact hf.2.2.2.2.2.1
        · split
          · have := pow_pos ((fW id).toNat - 1); omega
          · exact hf.2.2.2.2.1
    · exact (pat_bnd hm (Int.natCast_nonneg _) (nearK_le id neg P Q)).1
theorem textS_le (l : List UInt8) (h : (textS l).1 = false) : (textS l).2 ≤ l.length := by
  obtain ⟨a, b⟩ := outA_text l
  rw [← b (a.trans h)]
  exact outA_le 0 l
theorem par_fits' (id mode : Int) (l : List UInt8) :
    ((parV id mode l).2.2 ≠ 0 ∧ (parV id mode l).1 = 0 ∧ 0 ≤ (parV id mode l).2.1 ∧ (parV id mode l).2.1 ≤ l.length ∧ ((parV id mode l).2.1 = 0 ∨ (parV id mode l).2.2 = 2 ∨ ((parV id mode l).2.2 = 5 ∧ (parV id mode l).2.1 = 1))) ∨
    ((parV id mode l).2.2 = 0 ∧ (parV id mode l).2.1 = 0 ∧ fitsV id (parV id mode l).1 = 0 ∧ canonV id (parV id mode l).1 = (parV id mode l).1 ∧ 0 ≤ (parV id mode l).1) :=
  par_fits id mode l (textS_le l) fun _ _ _ h => round_nat h
end Go.Proofs.YtdlkfnkmdlcekaaGreatDoor
