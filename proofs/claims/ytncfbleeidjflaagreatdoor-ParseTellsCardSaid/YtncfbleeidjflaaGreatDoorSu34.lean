/- Parse, walked: words and numbers. Conditions: the variables that values read. -/
/- Parse, by what it tells. Conditions: the variables that values read. -/
/- The document's Parse, walked: what it refuses ahead of the number. Conditions: none. -/
import Derived.Test.YtncfbleeidjflaaGreatDoorSu33
import Derived.Test.YtncfbleeidjflaaGreatDoorSu32
import Derived.Test.YtncfbleeidjflaaGreatDoorSu27
namespace Go.Proofs.YtncfbleeidjflaaGreatDoor
open Go.RowKit Go.Cal
theorem pBlk_cells6 {g : Nat} {a b c d e f : Value} {t : TypeId} {w : World} (hp : pBlk g #[a, b, c, d, e, f] t w) : w.cell? ⟨g, 0, none⟩ = some a ∧ w.cell? ⟨g, 1, none⟩ = some b ∧ w.cell? ⟨g, 2, none⟩ = some c ∧ w.cell? ⟨g, 3, none⟩ = some d ∧ w.cell? ⟨g, 4, none⟩ = some e ∧ w.cell? ⟨g, 5, none⟩ = some f :=
  ⟨hp.cell 0 _ rfl, hp.cell 1 _ rfl, hp.cell 2 _ rfl, hp.cell 3 _ rfl, hp.cell 4 _ rfl, hp.cell 5 _ rfl⟩
theorem number_item {w : World} (it : Cal.Item) (hok : ItemOk it) {A : Option Addr} {n c : Nat} (hv : IsT w (.slice A n c) 2000 it.d) :
    Calls Tryz.prog 37 #[.agg #[.int .i64 (it.kind : Nat), .bool it.neg, .slice A n c, .int .i64 it.k, .int .i64 it.big, .bool it.cut]] w fun e w' => ∃ A5 n5 c5, e = .returned (.agg #[.bool it.neg, .slice A5 n5 c5, .int .i64 (numX it), .int .i64 (numX it)]) ∧ IsT w' (.slice A5 n5 c5) 128 (numN it) ∧ Below w.heap.size w w' := by
  unfold numX numN
  by_cases h : it.big = 0
  · rw [if_pos h, if_pos h, h]
    obtain ⟨a, b, d⟩ := hok.num h
    exact number_near it.kind it.neg it.cut it.k (IsT.isN hv) (by decide) a ⟨b, d⟩
  · rw [if_neg h, if_neg h]
    exact number_far it.kind it.neg it.cut A n c it.k it.big (by rcases hok.big with h1 | h1 | h1; exact absurd h1 h; exact .inl h1; exact .inr h1) w
theorem no_u64 (x : Int) : ∀ y ∈ (#[.int .i64 x] : Array Value).toList, ∀ n, y ≠ .int .u64 n := by simp
set_option maxRecDepth 100000 in
set_option maxHeartbeats 2000000 in
theorem parse_noword (id mode : Int) (l : List UInt8) (hl : l.length ≤ 1099511627776) (h1 : 1 ≤ id) (h2 : id < 15) (hm : ¬ (mode ≠ 1 ∧ mode ≠ 2)) (ht : (textS l).1 = true) (it : Cal.Item) (hitE : textV 1125899906842624 l = it) (hk : (it.kind : Int) = 2 ∨ (it.kind : Int) = 3 ∨ (it.kind : Int) = 4) (hwd : wordB id it.kind it.neg = false) (w : World) (hW : VaW w) :
    Calls Tryz.prog 13 #[.int .i64 id, .int .i64 mode, .string (strL l)] w fun e w' => e = .returned (.tuple #[.int .u64 0, .int .i64 (if it.neg = true then 1 else 0), .int .i64 5]) ∧ Below w.heap.size w w' := by
  have hcv := fun w => run_bytes_of_string (P := Tryz.prog) w 9 66 5 (strL l) sunder_str sunder_bytes sunder_byte
  have hsz := strL_size l
  simp only [hsz] at hcv
  have hk1 : ((it.kind : Int) != 1) = true := by rw [bne_iff_ne]; omega
  have hwn := Lib.hid (fun A n c k big cut w => word_no id h1 h2 it.kind hk it.neg cut A n c k big w hwd)
  clear hwd hk
  obtain ⟨aw, haw⟩ : ∃ x : Int, (if it.neg = true then 1 else 0) = x := ⟨_, rfl⟩
  rw [haw] at hwn ⊢
  clear haw
  rcases mode_two hm with m1 | ⟨m1, m2⟩
  all_goals
    clear hm
    skip
    have hmf : ∀ (fn : Fn) (first cap : Array Value) (w : World), (Instr.makeFunc fn first cap).run Tryz.prog w = .ok (.func fn first cap) w := fun _ _ _ _ => rfl
    have hfo := Lib.hid (fun (W : World) (hW : VaW W) => fo_of id W hW.frm h1 h2)
    have hL := parse_start w
    go_enter_defers Tryz.func13, Tryz.ntmps13
    go_wp2_with fail
    refine (hfo.out _ (hW.below hL.below)).mono ?_
    rintro e u1 ⟨rfl, hb1⟩
    have hF := pBlk_made u1 #[.int .i64 (fK id), .int .i64 (fW id), .int .i64 (fM id), .int .i64 (fB id), .int .u64 (fT id), .int .u64 (fI id), .int .u64 (fN id)] 58
    replace hL := (hL.go hb1).go ((Below.refl _ _).alloc (Nat.le_refl _) (.cells #[.int .i64 (fK id), .int .i64 (fW id), .int .i64 (fM id), .int .i64 (fB id), .int .u64 (fT id), .int .u64 (fI id), .int .u64 (fN id)] 58))
    obtain ⟨c0, c1, c2, f0, f1, f2, hlt⟩ := get_c hL
    go_wp2_with fail
    refine (qmust_yes 0 _).mono ?_
    rintro e u2 ⟨rfl, rfl⟩
    have hgF : w.heap.size + 1 + 1 < u1.heap.size := by
      have := hb1.size
      simp at this
      omega
    replace hL := set_e hL 0
    replace hF := hF.othX (g' := w.heap.size + 1 + 1) (by omega) 0 (.int .i64 0)
    clear c0 c1 c2 f0 f1 f2 hlt hb1
    obtain ⟨W1, hW1⟩ : ∃ W1, ((u1.alloc (.cells #[.int .i64 (fK id), .int .i64 (fW id), .int .i64 (fM id), .int .i64 (fB id), .int .u64 (fT id), .int .u64 (fI id), .int .u64 (fN id)] 58)).setCell ⟨w.heap.size + 1 + 1, 0, none⟩ (.int .i64 0)) = W1 := ⟨_, rfl⟩
    rw [hW1] at hL hF ⊢
    clear hW1
    obtain ⟨gF, hgE⟩ : ∃ g, u1.heap.size = g := ⟨_, rfl⟩
    rw [hgE] at hF hgF ⊢
    clear hgE
    obtain ⟨c0, c1, c2, f0, f1, f2, hlt⟩ := get_c hL
    go_wp2_with fail
    refine (scan_any l _ _ (rd_bytes1 W1 l _ _) hl).mono ?_
    rintro e w2 ⟨hcase, hb⟩
    rcases hcase with ⟨_, v, rfl, hit⟩ | ⟨h0, _⟩
    case inr => rw [ht] at h0; cases h0
    rw [hitE] at hit
    obtain ⟨A3, c3, zs, rfl, r1, r2, r3, r4, r5, -⟩ := hit
    have hv : IsT w2 (.slice A3 zs.length c3) 2000 it.d := ⟨A3, c3, zs, rfl, r1, r2, r3, r4, r5⟩
    clear r1 r2 r3 r4 r5
    obtain ⟨n3, hn3⟩ : ∃ n, zs.length = n := ⟨_, rfl⟩
    rw [hn3] at hv ⊢
    clear hn3
    have hbw : Below W1.heap.size W1 w2 := ((Below.refl _ _).alloc (Nat.le_refl _) _).drew.trans (hb.mono (by simp))
    clear hb
    have hal : Below w2.heap.size w2 (w2.alloc (.cells #[.int .i64 (it.kind : Nat), .bool it.neg, .slice A3 n3 c3, .int .i64 it.k, .int .i64 it.big, .bool it.cut] 63)) := (Below.refl _ _).alloc (Nat.le_refl _) _
    have hI := pBlk_made w2 #[.int .i64 (it.kind : Nat), .bool it.neg, .slice A3 n3 c3, .int .i64 it.k, .int .i64 it.big, .bool it.cut] 63
    replace hF := pBlk_st _ _ _ _ _ (pBlk_st _ _ _ _ _ hF hbw) hal
    replace hv := hv.below hal
    replace hL := (hL.go hbw).go hal
    have hgI : w.heap.size + 1 + 1 < w2.heap.size := by have := hbw.size; omega
    clear c0 c1 c2 f0 f1 f2 hlt hcv hsz hbw hal
    obtain ⟨gI, hgE⟩ : ∃ g, w2.heap.size = g := ⟨_, rfl⟩
    obtain ⟨c0, c1, c2, f0, f1, f2, hlt⟩ := get_c hL
    rw [hgE] at hI hgI
    have hgI' := Lib.hid hgI
    clear hgI
    go_wp2_with fail
    refine (qmust_yes 0 _).mono ?_
    rintro e u4 ⟨rfl, rfl⟩
    have hgI := hgI'.out
    replace hv := (hv.apartX (i := 0) (u := .int .i64 0) (hL.get (P := pBlk (w.heap.size + 1) #[.int .i64 0] 3) (by repeat (first | exact List.mem_cons_self | apply List.mem_cons_of_mem))) (no_u64 _))
    replace hI := hI.othX (g' := w.heap.size + 1) (by omega) 0 (.int .i64 0)
    replace hF := hF.othX (g' := w.heap.size + 1) (by omega) 0 (.int .i64 0)
    replace hL := set_a hL 0
    replace hv := (hv.apartX (i := 0) (u := .int .i64 0) (hL.get (P := pBlk (w.heap.size + 1 + 1) #[.int .i64 0] 24) (by repeat (first | exact List.mem_cons_self | apply List.mem_cons_of_mem))) (no_u64 _))
    replace hI := hI.othX (g' := w.heap.size + 1 + 1) (by omega) 0 (.int .i64 0)
    replace hF := hF.othX (g' := w.heap.size + 1 + 1) (by omega) 0 (.int .i64 0)
    replace hL := set_e hL 0
    clear c0 c1 c2 f0 f1 f2 hlt
    (try rw [hgE])
    obtain ⟨W3, hW3⟩ : ∃ W3, (((w2.alloc (.cells #[.int .i64 (it.kind : Nat), .bool it.neg, .slice A3 n3 c3, .int .i64 it.k, .int .i64 it.big, .bool it.cut] 63)).setCell ⟨w.heap.size + 1, 0, none⟩ (.int .i64 0)).setCell ⟨w.heap.size + 1 + 1, 0, none⟩ (.int .i64 0)) = W3 := ⟨_, rfl⟩
    rw [hW3] at hL hF hI hv ⊢
    clear hW3 hgE hgI'
    obtain ⟨c0, c1, c2, f0, f1, f2, hlt⟩ := get_c hL
    obtain ⟨i0, i1, i2, i3, i4, i5⟩ := pBlk_cells6 hI
    have k0 := hF.cell 0 _ rfl
    have k1 := hF.cell 1 _ rfl
    have k2 := hF.cell 2 _ rfl
    have k3 := hF.cell 3 _ rfl
    have k4 := hF.cell 4 _ rfl
    have k5 := hF.cell 5 _ rfl
    have k6 := hF.cell 6 _ rfl
    go_wp2_with fail
    refine (hwn.out _ _ _ _ _ _ _).mono ?_
    rintro e w4 ⟨rfl, hb4⟩
    replace hL := hL.go hb4
    clear c0 c1 c2 f0 f1 f2 hlt
    have p0 := hL.get (P := pBlk w.heap.size #[.int .u64 0] 22) (by repeat (first | exact List.mem_cons_self | apply List.mem_cons_of_mem))
    have p1 := hL.get (P := pBlk (w.heap.size + 1) #[.int .i64 0] 3) (by repeat (first | exact List.mem_cons_self | apply List.mem_cons_of_mem))
    have p2 := hL.get (P := pBlk (w.heap.size + 1 + 1) #[.int .i64 0] 24) (by repeat (first | exact List.mem_cons_self | apply List.mem_cons_of_mem))
    have hbl := hL.below
    clear hL
    go_wp2
    refine leaves_cons (f := 31) (args := #[.pointer (some ⟨w.heap.size, 0, none⟩), .pointer (some ⟨w.heap.size + 1, 0, none⟩), .pointer (some ⟨w.heap.size + 1 + 1, 0, none⟩)]) (by simp) (by simp [go_sem]) ?_
    refine (qcatch_thrown w.heap.size aw 5 [] _ p0 p1 p2).mono ?_
    rintro e1 u8 w8 ⟨rfl, rfl, pd0, pd1, pd2, hb8⟩
    have y0 := pd0.cell 0 _ rfl
    have y1 := pd1.cell 0 _ rfl
    have y2 := pd2.cell 0 _ rfl
    have hbf := hbl.trans hb8
    clear p0 p1 p2 pd0 pd1 pd2
    simp [Leaves, settle, results, Tryz.results13, go_sem, y0, y1, y2]
    exact hbf
set_option maxRecDepth 100000 in
set_option maxHeartbeats 2000000 in
theorem parse_word (id mode : Int) (l : List UInt8) (hl : l.length ≤ 1099511627776) (h1 : 1 ≤ id) (h2 : id < 15) (hm : ¬ (mode ≠ 1 ∧ mode ≠ 2)) (ht : (textS l).1 = true) (it : Cal.Item) (hitE : textV 1125899906842624 l = it) (hk : (it.kind : Int) = 2 ∨ (it.kind : Int) = 3 ∨ (it.kind : Int) = 4) (hwd : wordB id it.kind it.neg = true) (w : World) (hW : VaW w) :
    Calls Tryz.prog 13 #[.int .i64 id, .int .i64 mode, .string (strL l)] w fun e w' => e = .returned (.tuple #[.int .u64 (wordP id it.kind it.neg), .int .i64 0, .int .i64 0]) ∧ Below w.heap.size w w' := by
  have hcv := fun w => run_bytes_of_string (P := Tryz.prog) w 9 66 5 (strL l) sunder_str sunder_bytes sunder_byte
  have hsz := strL_size l
  simp only [hsz] at hcv
  have hk1 : ((it.kind : Int) != 1) = true := by rw [bne_iff_ne]; omega
  have hwn := Lib.hid (fun A n c k big cut w => word_yes id h1 h2 it.kind hk it.neg cut A n c k big w hwd)
  clear hwd hk
  rcases mode_two hm with m1 | ⟨m1, m2⟩
  all_goals
    clear hm
    skip
    have hmf : ∀ (fn : Fn) (first cap : Array Value) (w : World), (Instr.makeFunc fn first cap).run Tryz.prog w = .ok (.func fn first cap) w := fun _ _ _ _ => rfl
    have hfo := Lib.hid (fun (W : World) (hW : VaW W) => fo_of id W hW.frm h1 h2)
    have hL := parse_start w
    go_enter_defers Tryz.func13, Tryz.ntmps13
    go_wp2_with fail
    refine (hfo.out _ (hW.below hL.below)).mono ?_
    rintro e u1 ⟨rfl, hb1⟩
    have hF := pBlk_made u1 #[.int .i64 (fK id), .int .i64 (fW id), .int .i64 (fM id), .int .i64 (fB id), .int .u64 (fT id), .int .u64 (fI id), .int .u64 (fN id)] 58
    replace hL := (hL.go hb1).go ((Below.refl _ _).alloc (Nat.le_refl _) (.cells #[.int .i64 (fK id), .int .i64 (fW id), .int .i64 (fM id), .int .i64 (fB id), .int .u64 (fT id), .int .u64 (fI id), .int .u64 (fN id)] 58))
    obtain ⟨c0, c1, c2, f0, f1, f2, hlt⟩ := get_c hL
    go_wp2_with fail
    refine (qmust_yes 0 _).mono ?_
    rintro e u2 ⟨rfl, rfl⟩
    have hgF : w.heap.size + 1 + 1 < u1.heap.size := by
      have := hb1.size
      simp at this
      omega
    replace hL := set_e hL 0
    replace hF := hF.othX (g' := w.heap.size + 1 + 1) (by omega) 0 (.int .i64 0)
    clear c0 c1 c2 f0 f1 f2 hlt hb1
    obtain ⟨W1, hW1⟩ : ∃ W1, ((u1.alloc (.cells #[.int .i64 (fK id), .int .i64 (fW id), .int .i64 (fM id), .int .i64 (fB id), .int .u64 (fT id), .int .u64 (fI id), .int .u64 (fN id)] 58)).setCell ⟨w.heap.size + 1 + 1, 0, none⟩ (.int .i64 0)) = W1 := ⟨_, rfl⟩
    rw [hW1] at hL hF ⊢
    clear hW1
    obtain ⟨gF, hgE⟩ : ∃ g, u1.heap.size = g := ⟨_, rfl⟩
    rw [hgE] at hF hgF ⊢
    clear hgE
    obtain ⟨c0, c1, c2, f0, f1, f2, hlt⟩ := get_c hL
    go_wp2_with fail
    refine (scan_any l _ _ (rd_bytes1 W1 l _ _) hl).mono ?_
    rintro e w2 ⟨hcase, hb⟩
    rcases hcase with ⟨_, v, rfl, hit⟩ | ⟨h0, _⟩
    case inr => rw [ht] at h0; cases h0
    rw [hitE] at hit
    obtain ⟨A3, c3, zs, rfl, r1, r2, r3, r4, r5, -⟩ := hit
    have hv : IsT w2 (.slice A3 zs.length c3) 2000 it.d := ⟨A3, c3, zs, rfl, r1, r2, r3, r4, r5⟩
    clear r1 r2 r3 r4 r5
    obtain ⟨n3, hn3⟩ : ∃ n, zs.length = n := ⟨_, rfl⟩
    rw [hn3] at hv ⊢
    clear hn3
    have hbw : Below W1.heap.size W1 w2 := ((Below.refl _ _).alloc (Nat.le_refl _) _).drew.trans (hb.mono (by simp))
    clear hb
    have hal : Below w2.heap.size w2 (w2.alloc (.cells #[.int .i64 (it.kind : Nat), .bool it.neg, .slice A3 n3 c3, .int .i64 it.k, .int .i64 it.big, .bool it.cut] 63)) := (Below.refl _ _).alloc (Nat.le_refl _) _
    have hI := pBlk_made w2 #[.int .i64 (it.kind : Nat), .bool it.neg, .slice A3 n3 c3, .int .i64 it.k, .int .i64 it.big, .bool it.cut] 63
    replace hF := pBlk_st _ _ _ _ _ (pBlk_st _ _ _ _ _ hF hbw) hal
    replace hv := hv.below hal
    replace hL := (hL.go hbw).go hal
    have hgI : w.heap.size + 1 + 1 < w2.heap.size := by have := hbw.size; omega
    clear c0 c1 c2 f0 f1 f2 hlt hcv hsz hbw hal
    obtain ⟨gI, hgE⟩ : ∃ g, w2.heap.size = g := ⟨_, rfl⟩
    obtain ⟨c0, c1, c2, f0, f1, f2, hlt⟩ := get_c hL
    rw [hgE] at hI hgI
    have hgI' := Lib.hid hgI
    clear hgI
    go_wp2_with fail
    refine (qmust_yes 0 _).mono ?_
    rintro e u4 ⟨rfl, rfl⟩
    have hgI := hgI'.out
    replace hv := (hv.apartX (i := 0) (u := .int .i64 0) (hL.get (P := pBlk (w.heap.size + 1) #[.int .i64 0] 3) (by repeat (first | exact List.mem_cons_self | apply List.mem_cons_of_mem))) (no_u64 _))
    replace hI := hI.othX (g' := w.heap.size + 1) (by omega) 0 (.int .i64 0)
    replace hF := hF.othX (g' := w.heap.size + 1) (by omega) 0 (.int .i64 0)
    replace hL := set_a hL 0
    replace hv := (hv.apartX (i := 0) (u := .int .i64 0) (hL.get (P := pBlk (w.heap.size + 1 + 1) #[.int .i64 0] 24) (by repeat (first | exact List.mem_cons_self | apply List.mem_cons_of_mem))) (no_u64 _))
    replace hI := hI.othX (g' := w.heap.size + 1 + 1) (by omega) 0 (.int .i64 0)
    replace hF := hF.othX (g' := w.heap.size + 1 + 1) (by omega) 0 (.int .i64 0)
    replace hL := set_e hL 0
    clear c0 c1 c2 f0 f1 f2 hlt
    (try rw [hgE])
    obtain ⟨W3, hW3⟩ : ∃ W3, (((w2.alloc (.cells #[.int .i64 (it.kind : Nat), .bool it.neg, .slice A3 n3 c3, .int .i64 it.k, .int .i64 it.big, .bool it.cut] 63)).setCell ⟨w.heap.size + 1, 0, none⟩ (.int .i64 0)).setCell ⟨w.heap.size + 1 + 1, 0, none⟩ (.int .i64 0)) = W3 := ⟨_, rfl⟩
    rw [hW3] at hL hF hI hv ⊢
    clear hW3 hgE hgI'
    obtain ⟨c0, c1, c2, f0, f1, f2, hlt⟩ := get_c hL
    obtain ⟨i0, i1, i2, i3, i4, i5⟩ := pBlk_cells6 hI
    have k0 := hF.cell 0 _ rfl
    have k1 := hF.cell 1 _ rfl
    have k2 := hF.cell 2 _ rfl
    have k3 := hF.cell 3 _ rfl
    have k4 := hF.cell 4 _ rfl
    have k5 := hF.cell 5 _ rfl
    have k6 := hF.cell 6 _ rfl
    go_wp2_with fail
    refine (hwn.out _ _ _ _ _ _ _).mono ?_
    rintro e w4 ⟨rfl, hb4⟩
    replace hL := hL.go hb4
    clear c0 c1 c2 f0 f1 f2 hlt
    obtain ⟨c0, c1, c2, f0, f1, f2, hlt⟩ := get_c hL
    have hL4 := set_e (set_a (set_p hL (wordP id it.kind it.neg)) 0) 0
    obtain ⟨d0, d1, d2, -⟩ := get_c hL4
    go_wp2
    show Leaves _ _ _ _ _ .returning _
    refine leaves_cons (f := 31) (args := #[.pointer (some ⟨w.heap.size, 0, none⟩), .pointer (some ⟨w.heap.size + 1, 0, none⟩), .pointer (some ⟨w.heap.size + 1 + 1, 0, none⟩)]) (by simp) (by simp [go_sem]) ?_
    refine (qcatch_idle w.heap.size _).mono ?_
    rintro e1 u8 w8 ⟨rfl, rfl, rfl⟩
    simp [Leaves, settle, results, Tryz.results13, go_sem, d0, d1, d2]
    exact hL4.below
set_option maxRecDepth 100000 in
set_option maxHeartbeats 2000000 in
theorem parse_num (id mode : Int) (l : List UInt8) (hl : l.length ≤ 1099511627776) (h1 : 1 ≤ id) (h2 : id < 15) (hm : ¬ (mode ≠ 1 ∧ mode ≠ 2)) (ht : (textS l).1 = true) (it : Cal.Item) (hitE : textV 1125899906842624 l = it) (hk : it.kind = 1) (hok : ItemOk it) (w : World) (hW : VaW w) :
    Calls Tryz.prog 13 #[.int .i64 id, .int .i64 mode, .string (strL l)] w fun e w' => e = .returned (.tuple #[.int .u64 (roundP id mode it.neg (exP (numN it) (numX it) (numX it)) (exQ (numX it) (numX it))), .int .i64 0, .int .i64 0]) ∧ Below w.heap.size w w' := by
  have hcv := fun w => run_bytes_of_string (P := Tryz.prog) w 9 66 5 (strL l) sunder_str sunder_bytes sunder_byte
  have hsz := strL_size l
  simp only [hsz] at hcv
  have hk1 : ((it.kind : Int) != 1) = false := by rw [hk]; rfl
  have hE : roundE id mode = 0 := by unfold roundE; rw [if_neg (by omega), if_neg hm]
  have hX : -5000 ≤ numX it ∧ numX it ≤ 5000 := by
    unfold numX
    split
    · rename_i hz
      exact (hok.num hz).2
    · rcases hok.big with h | h | h
      · contradiction
      · rw [h]; decide
      · rw [h]; decide
  have hnb := Lib.hid (fun (W : World) A n c (hv : IsT W (.slice A n c) 2000 it.d) => number_item it hok hv)
  have hrd := Lib.hid (fun (W : World) A n c (hW : VaW W) (hv : IsT W (.slice A n c) 128 (numN it)) => rround_any id mode it.neg (numX it) (numX it) hW hv hX hX)
  have hRR : roundR id mode it.neg (exP (numN it) (numX it) (numX it)) (exQ (numX it) (numX it)) = roundP id mode it.neg (exP (numN it) (numX it) (numX it)) (exQ (numX it) (numX it)) := by unfold roundR; rw [if_pos hE]
  rw [hRR, hE] at hrd
  generalize roundP id mode it.neg (exP (numN it) (numX it) (numX it)) (exQ (numX it) (numX it)) = rp at hrd ⊢
  clear hE hRR hX hok
  replace hk := Lib.hid hk
  rcases mode_two hm with m1 | ⟨m1, m2⟩
  all_goals
    clear hm
    skip
    have hmf : ∀ (fn : Fn) (first cap : Array Value) (w : World), (Instr.makeFunc fn first cap).run Tryz.prog w = .ok (.func fn first cap) w := fun _ _ _ _ => rfl
    have hfo := Lib.hid (fun (W : World) (hW : VaW W) => fo_of id W hW.frm h1 h2)
    have hL := parse_start w
    go_enter_defers Tryz.func13, Tryz.ntmps13
    go_wp2_with fail
    refine (hfo.out _ (hW.below hL.below)).mono ?_
    rintro e u1 ⟨rfl, hb1⟩
    have hF := pBlk_made u1 #[.int .i64 (fK id), .int .i64 (fW id), .int .i64 (fM id), .int .i64 (fB id), .int .u64 (fT id), .int .u64 (fI id), .int .u64 (fN id)] 58
    replace hL := (hL.go hb1).go ((Below.refl _ _).alloc (Nat.le_refl _) (.cells #[.int .i64 (fK id), .int .i64 (fW id), .int .i64 (fM id), .int .i64 (fB id), .int .u64 (fT id), .int .u64 (fI id), .int .u64 (fN id)] 58))
    obtain ⟨c0, c1, c2, f0, f1, f2, hlt⟩ := get_c hL
    go_wp2_with fail
    refine (qmust_yes 0 _).mono ?_
    rintro e u2 ⟨rfl, rfl⟩
    have hgF : w.heap.size + 1 + 1 < u1.heap.size := by
      have := hb1.size
      simp at this
      omega
    replace hL := set_e hL 0
    replace hF := hF.othX (g' := w.heap.size + 1 + 1) (by omega) 0 (.int .i64 0)
    clear c0 c1 c2 f0 f1 f2 hlt hb1
    obtain ⟨W1, hW1⟩ : ∃ W1, ((u1.alloc (.cells #[.int .i64 (fK id), .int .i64 (fW id), .int .i64 (fM id), .int .i64 (fB id), .int .u64 (fT id), .int .u64 (fI id), .int .u64 (fN id)] 58)).setCell ⟨w.heap.size + 1 + 1, 0, none⟩ (.int .i64 0)) = W1 := ⟨_, rfl⟩
    rw [hW1] at hL hF ⊢
    clear hW1
    obtain ⟨gF, hgE⟩ : ∃ g, u1.heap.size = g := ⟨_, rfl⟩
    rw [hgE] at hF hgF ⊢
    clear hgE
    obtain ⟨c0, c1, c2, f0, f1, f2, hlt⟩ := get_c hL
    go_wp2_with fail
    refine (scan_any l _ _ (rd_bytes1 W1 l _ _) hl).mono ?_
    rintro e w2 ⟨hcase, hb⟩
    rcases hcase with ⟨_, v, rfl, hit⟩ | ⟨h0, _⟩
    case inr => rw [ht] at h0; cases h0
    rw [hitE] at hit
    obtain ⟨A3, c3, zs, rfl, r1, r2, r3, r4, r5, -⟩ := hit
    have hv : IsT w2 (.slice A3 zs.length c3) 2000 it.d := ⟨A3, c3, zs, rfl, r1, r2, r3, r4, r5⟩
    clear r1 r2 r3 r4 r5
    obtain ⟨n3, hn3⟩ : ∃ n, zs.length = n := ⟨_, rfl⟩
    rw [hn3] at hv ⊢
    clear hn3
    have hbw : Below W1.heap.size W1 w2 := ((Below.refl _ _).alloc (Nat.le_refl _) _).drew.trans (hb.mono (by simp))
    clear hb
    have hal : Below w2.heap.size w2 (w2.alloc (.cells #[.int .i64 (it.kind : Nat), .bool it.neg, .slice A3 n3 c3, .int .i64 it.k, .int .i64 it.big, .bool it.cut] 63)) := (Below.refl _ _).alloc (Nat.le_refl _) _
    have hI := pBlk_made w2 #[.int .i64 (it.kind : Nat), .bool it.neg, .slice A3 n3 c3, .int .i64 it.k, .int .i64 it.big, .bool it.cut] 63
    replace hF := pBlk_st _ _ _ _ _ (pBlk_st _ _ _ _ _ hF hbw) hal
    replace hv := hv.below hal
    replace hL := (hL.go hbw).go hal
    have hgI : w.heap.size + 1 + 1 < w2.heap.size := by have := hbw.size; omega
    clear c0 c1 c2 f0 f1 f2 hlt hcv hsz hbw hal
    obtain ⟨gI, hgE⟩ : ∃ g, w2.heap.size = g := ⟨_, rfl⟩
    obtain ⟨c0, c1, c2, f0, f1, f2, hlt⟩ := get_c hL
    rw [hgE] at hI hgI
    have hgI' := Lib.hid hgI
    clear hgI
    go_wp2_with fail
    refine (qmust_yes 0 _).mono ?_
    rintro e u4 ⟨rfl, rfl⟩
    have hgI := hgI'.out
    replace hv := (hv.apartX (i := 0) (u := .int .i64 0) (hL.get (P := pBlk (w.heap.size + 1) #[.int .i64 0] 3) (by repeat (first | exact List.mem_cons_self | apply List.mem_cons_of_mem))) (no_u64 _))
    replace hI := hI.othX (g' := w.heap.size + 1) (by omega) 0 (.int .i64 0)
    replace hF := hF.othX (g' := w.heap.size + 1) (by omega) 0 (.int .i64 0)
    replace hL := set_a hL 0
    replace hv := (hv.apartX (i := 0) (u := .int .i64 0) (hL.get (P := pBlk (w.heap.size + 1 + 1) #[.int .i64 0] 24) (by repeat (first | exact List.mem_cons_self | apply List.mem_cons_of_mem))) (no_u64 _))
    replace hI := hI.othX (g' := w.heap.size + 1 + 1) (by omega) 0 (.int .i64 0)
    replace hF := hF.othX (g' := w.heap.size + 1 + 1) (by omega) 0 (.int .i64 0)
    replace hL := set_e hL 0
    clear c0 c1 c2 f0 f1 f2 hlt
    (try rw [hgE])
    obtain ⟨W3, hW3⟩ : ∃ W3, (((w2.alloc (.cells #[.int .i64 (it.kind : Nat), .bool it.neg, .slice A3 n3 c3, .int .i64 it.k, .int .i64 it.big, .bool it.cut] 63)).setCell ⟨w.heap.size + 1, 0, none⟩ (.int .i64 0)).setCell ⟨w.heap.size + 1 + 1, 0, none⟩ (.int .i64 0)) = W3 := ⟨_, rfl⟩
    rw [hW3] at hL hF hI hv ⊢
    clear hW3 hgE hgI'
    obtain ⟨c0, c1, c2, f0, f1, f2, hlt⟩ := get_c hL
    obtain ⟨i0, i1, i2, i3, i4, i5⟩ := pBlk_cells6 hI
    have k0 := hF.cell 0 _ rfl
    have k1 := hF.cell 1 _ rfl
    have k2 := hF.cell 2 _ rfl
    have k3 := hF.cell 3 _ rfl
    have k4 := hF.cell 4 _ rfl
    have k5 := hF.cell 5 _ rfl
    have k6 := hF.cell 6 _ rfl
    go_wp2_with fail
    refine (hnb.out _ _ _ _ hv).mono ?_
    rintro e w4 ⟨A5, n5, c5, rfl, hv5, hb4⟩
    replace hL := hL.go hb4
    clear c0 c1 c2 f0 f1 f2 hlt i0 i1 i2 i3 i4 i5 k0 k1 k2 k3 k4 k5 k6 hv hI hF
    obtain ⟨c0, c1, c2, f0, f1, f2, hlt⟩ := get_c hL
    go_wp2_with fail
    refine (hrd.out _ _ _ _ (hW.below hL.below) hv5).mono ?_
    rintro e w5 ⟨rfl, hb5⟩
    replace hL := hL.go hb5
    clear c0 c1 c2 f0 f1 f2 hlt
    obtain ⟨c0, c1, c2, f0, f1, f2, hlt⟩ := get_c hL
    go_wp2_with fail
    refine (qmust_yes 0 _).mono ?_
    rintro e u6 ⟨rfl, rfl⟩
    replace hL := set_e (set_p hL rp) 0
    clear c0 c1 c2 f0 f1 f2 hlt
    obtain ⟨W6, hW6⟩ : ∃ W, ((w5.setCell ⟨w.heap.size, 0, none⟩ (.int .u64 rp)).setCell ⟨w.heap.size + 1 + 1, 0, none⟩ (.int .i64 0)) = W := ⟨_, rfl⟩
    rw [hW6] at hL ⊢
    clear hW6
    obtain ⟨c0, c1, c2, f0, f1, f2, hlt⟩ := get_c hL
    have hL4 := set_e (set_a (set_p hL rp) 0) 0
    obtain ⟨d0, d1, d2, -⟩ := get_c hL4
    go_wp2
    show Leaves _ _ _ _ _ .returning _
    refine leaves_cons (f := 31) (args := #[.pointer (some ⟨w.heap.size, 0, none⟩), .pointer (some ⟨w.heap.size + 1, 0, none⟩), .pointer (some ⟨w.heap.size + 1 + 1, 0, none⟩)]) (by simp) (by simp [go_sem]) ?_
    refine (qcatch_idle w.heap.size _).mono ?_
    rintro e1 u8 w8 ⟨rfl, rfl, rfl⟩
    simp [Leaves, settle, results, Tryz.results13, go_sem, d0, d1, d2]
    exact hL4.below
end Go.Proofs.YtncfbleeidjflaaGreatDoor
namespace Go.Proofs.YtncfbleeidjflaaGreatDoor
open Go.RowKit Go.Cal
theorem ptext_any (id mode : Int) (l : List UInt8) (hl : l.length ≤ 1099511627776) (w : World) (hW : VaW w) :
    Calls Tryz.prog 13 #[.int .i64 id, .int .i64 mode, .string (strL l)] w fun e w' => e = .returned (.tuple #[.int .u64 (parV id mode l).1, .int .i64 (parV id mode l).2.1, .int .i64 (parV id mode l).2.2]) ∧ Below w.heap.size w w' := by
  by_cases hid : id < 1 ∨ 15 ≤ id
  · have hE : roundE id mode = 3 := by unfold roundE; rw [if_pos hid]
    have hV : parV id mode l = (0, 0, 3) := by unfold parV; rw [if_pos (by rw [hE]; decide), hE]
    rw [hV]
    exact parse_form id mode (strL l) hid w
  · have h1 : 1 ≤ id := by omega
    have h2 : id < 15 := by omega
    by_cases hm : mode ≠ 1 ∧ mode ≠ 2
    · have hE : roundE id mode = 1 := by unfold roundE; rw [if_neg hid, if_pos hm]
      have hV : parV id mode l = (0, 0, 1) := by unfold parV; rw [if_pos (by rw [hE]; decide), hE]
      rw [hV]
      exact parse_mode id mode (strL l) h1 h2 (by simp [hm.1]) (by simp [hm.2]) w hW
    · have hE : roundE id mode = 0 := by unfold roundE; rw [if_neg hid, if_neg hm]
      cases ht : (textS l).1 with
      | false =>
        have hV : parV id mode l = (0, (((textS l).2 : Nat) : Int), 2) := by unfold parV; rw [if_neg (by rw [hE]; decide), if_pos ht]
        rw [hV]
        exact parse_bad id mode l hl h1 h2 hm ht w hW
      | true =>
        have hV : parV id mode l = parI id mode (textV 1125899906842624 l) := by unfold parV; rw [if_neg (by rw [hE]; decide), if_neg (by rw [ht]; decide)]
        rw [hV]
        have hit := text_item 1125899906842624 l
        obtain ⟨it, hitE⟩ : ∃ it, textV 1125899906842624 l = it := ⟨_, rfl⟩
        rw [hitE] at hit ⊢
        unfold parI
        rcases hit with ⟨hk, hok⟩ | hk
        · rw [if_pos hk]
          exact parse_num id mode l hl h1 h2 hm ht it hitE hk hok w hW
        · have hk1 : it.kind ≠ 1 := by omega
          rw [if_neg hk1]
          cases hb : wordB id it.kind it.neg with
          | true =>
            rw [if_pos rfl]
            exact parse_word id mode l hl h1 h2 hm ht it hitE (by omega) hb w hW
          | false =>
            rw [if_neg (by decide)]
            exact parse_noword id mode l hl h1 h2 hm ht it hitE (by omega) hb w hW
end Go.Proofs.YtncfbleeidjflaaGreatDoor
namespace Go.Proofs.YtncfbleeidjflaaGreatDoor
open Go.RowKit Go.Cal
set_option maxRecDepth 100000 in
set_option maxHeartbeats 4000000 in
theorem rparse_form (id mode : Int) (s : ByteArray) (hid : id < 1 ∨ 15 ≤ id) (w : World) : Calls Tryz.prog 14 #[.int .i64 id, .int .i64 mode, .string s] w fun e w' => e = .returned (.tuple #[.int .u64 0, .int .i64 0, .int .i64 3]) ∧ Below w.heap.size w w' := by
  have hof := Lib.hid fun w => rof_no id w hid
  clear hid
  go_enter Tryz.func14, Tryz.ntmps14
  go_wp2_with fail
  refine (hof.out _).mono ?_
  rintro e w1 ⟨rfl, hb1⟩
  have hB := hb1.trans (((Below.refl w1.heap.size w1).alloc (Nat.le_refl _) (.cells #[.int .i64 0, .int .i64 0, .int .i64 0, .int .i64 0, .int .u64 0, .int .u64 0, .int .u64 0] 73)).mono hb1.size)
  go_wp2
  all_goals exact bodyPost_ret (v := .tuple #[.int .u64 0, .int .i64 0, .int .i64 3]) (by simp [results, Tryz.results14, go_sem]) rfl ⟨rfl, hB⟩
set_option maxRecDepth 100000 in
set_option maxHeartbeats 4000000 in
theorem rparse_mode (id mode : Int) (s : ByteArray) (h1 : 1 ≤ id) (h2 : id < 15) (m1 : (mode != 1) = true) (m2 : (mode != 2) = true) (w : World) : Calls Tryz.prog 14 #[.int .i64 id, .int .i64 mode, .string s] w fun e w' => e = .returned (.tuple #[.int .u64 0, .int .i64 0, .int .i64 1]) ∧ Below w.heap.size w w' := by
  have hof := Lib.hid fun w => rof_yes id w h1 h2
  clear h1 h2
  go_enter Tryz.func14, Tryz.ntmps14
  go_wp2_with fail
  refine (hof.out _).mono ?_
  rintro e w1 ⟨rfl, hb1⟩
  have hB := hb1.trans (((Below.refl w1.heap.size w1).alloc (Nat.le_refl _) (.cells #[.int .i64 (fK id), .int .i64 (fW id), .int .i64 (fM id), .int .i64 (fB id), .int .u64 (fT id), .int .u64 (fI id), .int .u64 (fN id)] 73)).mono hb1.size)
  go_wp2
  all_goals exact bodyPost_ret (v := .tuple #[.int .u64 0, .int .i64 0, .int .i64 1]) (by simp [results, Tryz.results14, go_sem]) rfl ⟨rfl, hB⟩
theorem rmode_two {mode : Int} (hm : ¬ (mode ≠ 1 ∧ mode ≠ 2)) : (mode != 1) = false ∨ ((mode != 1) = true ∧ (mode != 2) = false) := by
  by_cases h1 : mode = 1
  · left; simp [h1]
  · right
    have : mode = 2 := Classical.byContradiction fun h => hm ⟨h1, h⟩
    exact ⟨by simp [h1], by simp [this]⟩
set_option maxRecDepth 100000 in
set_option maxHeartbeats 4000000 in
theorem rparse_bad (id mode : Int) (l : List UInt8) (hl : l.length ≤ 100000) (p : Nat) (ht : (textS l).1 = false) (hp : (textS l).2 = p) (h1 : 1 ≤ id) (h2 : id < 15) (hm : ¬ (mode ≠ 1 ∧ mode ≠ 2)) (w : World) : Calls Tryz.prog 14 #[.int .i64 id, .int .i64 mode, .string (strL l)] w fun e w' => e = .returned (.tuple #[.int .u64 0, .int .i64 (p : Nat), .int .i64 2]) ∧ Below w.heap.size w w' := by
  have hof := Lib.hid fun w => rof_yes id w h1 h2
  have hsc := Lib.hid fun w => rscan_no l p ht hp hl w
  clear h1 h2 ht hp hl
  rcases rmode_two hm with m1 | ⟨m1, m2⟩
  all_goals
    clear hm
    go_enter Tryz.func14, Tryz.ntmps14
    go_wp2_with fail
    refine (hof.out _).mono ?_
    rintro e w1 ⟨rfl, hb1⟩
    have hB := hb1.trans (((Below.refl w1.heap.size w1).alloc (Nat.le_refl _) (.cells #[.int .i64 (fK id), .int .i64 (fW id), .int .i64 (fM id), .int .i64 (fB id), .int .u64 (fT id), .int .u64 (fI id), .int .u64 (fN id)] 73)).mono hb1.size)
    clear hb1
    go_wp2_with fail
    refine (hsc.out _).mono ?_
    rintro e w2 ⟨rfl, hb2⟩
    have hB2 := (hB.trans (hb2.mono hB.size)).trans (((Below.refl w2.heap.size w2).alloc (Nat.le_refl _) (.cells #[.int .i64 0, .bool false, .slice none 0 0, .int .i64 0, .int .i64 0, .bool false] 76)).mono (Nat.le_trans hB.size hb2.size))
    clear hb2 hB
    go_wp2
    all_goals exact bodyPost_ret (v := .tuple #[.int .u64 0, .int .i64 (p : Nat), .int .i64 2]) (by simp [results, Tryz.results14, go_sem]) rfl ⟨rfl, hB2⟩
end Go.Proofs.YtncfbleeidjflaaGreatDoor
