/- The law ScanSigns, walked. Condition: the table of powers reads as it is laid. -/
import Derived.Test.YtlpcfbilembilaaDoorScanG
import Derived.Test.YtlpcfbilembilaaDoorScanY
namespace Go.Proofs.YtlpcfbilembilaaDoor
open Go.RowKit Go.Cal
set_option maxRecDepth 100000 in
set_option maxHeartbeats 2000000 in
theorem scanSigns_any (v : Value) (w : World) (hT : Tab10 w) (h0 : ArgB w v) :
    Calls Tryd.prog 8 #[v] w fun e w' => e = .returned (.bool true) ∧ Below w.heap.size w w' := by
  obtain ⟨A, c, k, l, rfl, hr, hmi, hmc, hcm, hl⟩ := h0.cut 300
  obtain ⟨n, hn⟩ : ∃ n, l.length = n := ⟨_, rfl⟩
  have hsl := fun w => slice_head A k c (l.length : Int) w (by omega) hmc
  simp only [hn, Int.toNat_natCast] at hsl
  rw [hn] at hmi hmc hl
  replace hmi : min (k : Int) 300 = (n : Int) := hmi
  have hL := (LiveP.start w).put (pR_st A l) hr
  by_cases h45 : ∃ t, l = 45 :: t
  · rcases hr.place with rfl | ⟨b, off, rfl, hb⟩
    · obtain ⟨t, ht⟩ := h45
      cases ht
    · go_enter Tryd.func8, Tryd.ntmps8
      go_wp2_with fail
      refine (shown_any w hT).mono ?_
      rintro e w1 ⟨rfl, hb⟩
      replace hL := hL.go hb
      clear hb
      have hn0 : (0 : Int) < (n : Int) := by obtain ⟨t, rfl⟩ := h45; rw [← hn, List.length_cons]; omega
      have hc0 : w1.cell? ⟨b, off, none⟩ = some (.int .u8 45) := by
        obtain ⟨t, rfl⟩ := h45
        exact (hL.get (P := pR (some ⟨b, off, none⟩) (45 :: t)) (by repeat (first | exact List.mem_cons_self | apply List.mem_cons_of_mem))).cells b off rfl 0 (by simp)
      go_wp2
      go_ret
      exact ⟨rfl, hL.below⟩
  · obtain ⟨hs1, hs2, hs3⟩ := signs_text (l := l) 1125899906842624 (fun t e => h45 ⟨t, e⟩)
    by_cases hl0 : l = []
    · have hn0 : ¬ (0 : Int) < (n : Int) := by rw [hl0] at hn; simp at hn; omega
      replace hl0 := Lib.hid hl0
      · go_enter Tryd.func8, Tryd.ntmps8
        go_wp2_with fail
        refine (shown_any w hT).mono ?_
        rintro e w1 ⟨rfl, hb⟩
        replace hL := hL.go hb
        clear hb
        by_cases hok : (textS l).1 = true
        · obtain ⟨it, hit⟩ : ∃ x, textV 1125899906842624 l = x := ⟨_, rfl⟩
          have hy := fun w hr => scan_yes (A := A) (c := c) l it n hok hit hn (by omega) w hr
          have hy2 := fun A c w hr => scan_yes (A := A) (c := c) (45 :: l) ⟨it.kind, true, it.d, it.k, it.big, it.cut⟩ (n + 1) (by rw [hs1, hok]) (by rw [hs3, hit]) (by rw [List.length_cons, hn]) (by omega) w hr
          replace hit := Lib.hid hit
          replace hok := Lib.hid hok
          go_wp2_with fail
          refine (hy _ (hL.get (P := pR A l) (by repeat (first | exact List.mem_cons_self | apply List.mem_cons_of_mem)))).mono ?_
          rintro e w2 ⟨A2, n2, c2, rfl, hd, hb⟩
          replace hL := (hL.go hb).put (pItemN_st _ _ _) hd
          have hz2 : w.heap.size ≤ w2.heap.size := hL.size
          have hrl := ((hL.go ((Below.refl _ _).alloc (Nat.le_refl _) (.cells #[.int .i64 (it.kind : Nat), .bool it.neg, .slice A2 n2 c2, .int .i64 it.k, .int .i64 it.big, .bool it.cut] 27))).go ((Below.refl _ _).alloc (Nat.le_refl _) (.cells #[.int .u8 45] 5))).get (P := pR A l) (by repeat (first | exact List.mem_cons_self | apply List.mem_cons_of_mem))
          replace hL := (hL.go ((Below.refl _ _).alloc (Nat.le_refl _) (.cells #[.int .i64 (it.kind : Nat), .bool it.neg, .slice A2 n2 c2, .int .i64 it.k, .int .i64 it.big, .bool it.cut] 27))).put (pBlk_st _ _ _) (pBlk_made w2 _ 27)
          have hX : Below w2.heap.size w2 (w2.alloc (.cells #[.int .i64 (it.kind : Nat), .bool it.neg, .slice A2 n2 c2, .int .i64 it.k, .int .i64 it.big, .bool it.cut] 27)) := (Below.refl _ _).alloc (Nat.le_refl _) _
          clear hb hy
          go_wp2_with (at_builtin; refine wpList_app rfl _ _ rfl (w2.heap.size + 1) [45] l rfl rfl rfl hn.symm ?own hrl ?hbase ?hsz ?_)
          case own => exact ownB_lit2 _ _ [45] _ rfl (by decide)
          case hbase => simp
          case hsz => simp; omega
          intro g3 c3 w3 how hb
          replace hb := below_app hb
          replace hL := hL.go hb
          replace hX := chain hX hb
          have hz3 : w2.heap.size < w3.heap.size := (hL.get (P := pBlk w2.heap.size #[.int .i64 (it.kind : Nat), .bool it.neg, .slice A2 n2 c2, .int .i64 it.k, .int .i64 it.big, .bool it.cut] 27) (by repeat (first | exact List.mem_cons_self | apply List.mem_cons_of_mem))).lt
          clear hb hrl
          go_wp2_with fail
          refine (hy2 _ _ _ how.rd).mono ?_
          rintro e w4 ⟨A4, n4, c4, rfl, hd4, hb⟩
          replace hL := hL.go hb
          replace hX := chain hX hb
          have hB := hL.get (P := pBlk w2.heap.size #[.int .i64 (it.kind : Nat), .bool it.neg, .slice A2 n2 c2, .int .i64 it.k, .int .i64 it.big, .bool it.cut] 27) (by repeat (first | exact List.mem_cons_self | apply List.mem_cons_of_mem))
          have hz4 : w2.heap.size < w4.heap.size := hB.lt
          have f1 := hB.free 1
          have g0 := hB.cell 0 _ rfl
          have g1 := hB.cell 1 _ rfl
          have g2 := hB.cell 2 _ rfl
          have g3' := hB.cell 3 _ rfl
          have g4 := hB.cell 4 _ rfl
          have g5 := hB.cell 5 _ rfl
          have hw := hL.below
          have hw2 : w.heap.size ≤ w2.heap.size := hz2
          clear hb hB how hy2 hL
          have hX5 := (hX.setCell (p := ⟨w2.heap.size, 1, none⟩) (Nat.le_refl _) (.bool true)).alloc (by rw [size_setCell]; exact Nat.le_of_lt hz4) (.cells #[.int .i64 (it.kind : Nat), .bool true, .slice A4 n4 c4, .int .i64 it.k, .int .i64 it.big, .bool it.cut] 27)
          have hx5 := (pItem_again hd.item).below hX5
          have hy5 := (pItemN_st _ _ _ _ _ (hd4.setCell (p := ⟨w2.heap.size, 1, none⟩) (.bool true) hz3) ((Below.refl _ _).alloc (Nat.le_refl _) (.cells #[.int .i64 (it.kind : Nat), .bool true, .slice A4 n4 c4, .int .i64 it.k, .int .i64 it.big, .bool it.cut] 27))).item
          have hfin := (hw.setCell (p := ⟨w2.heap.size, 1, none⟩) hw2 (.bool true)).alloc (by rw [size_setCell]; omega) (.cells #[.int .i64 (it.kind : Nat), .bool true, .slice A4 n4 c4, .int .i64 it.k, .int .i64 it.big, .bool it.cut] 27)
          go_wp2_with fail
          refine (same_any (it := ⟨it.kind, true, it.d, it.k, it.big, it.cut⟩) _ ⟨_, rfl, hx5⟩ hy5).mono ?_
          rintro e w6 ⟨rfl, hb⟩
          replace hfin := chain hfin hb
          clear hb hX hX5 hx5 hy5 hw f1 g0 g1 g2 g3' g4 g5
          go_wp2
          go_ret
          exact ⟨rfl, hfin⟩
        · have hok' : (textS l).1 = false := by simpa using hok
          obtain ⟨p, hp⟩ : ∃ p, (textS l).2 = p := ⟨_, rfl⟩
          have hpn : p ≤ n := by rw [← hn, ← hp]; exact (text_place l hok').1
          obtain ⟨q, hq⟩ : ∃ q, p + 1 = q := ⟨_, rfl⟩
          have hqi : (p : Int) + 1 = (q : Int) := by omega
          have hy := fun w hr => scan_no (A := A) (c := c) l p n hok' hp hn (by omega) w hr
          have hy2 := fun A c w hr => scan_no (A := A) (c := c) (45 :: l) q (n + 1) (by rw [hs1, hok']) (by rw [hs2, hp, hq]) (by rw [List.length_cons, hn]) (by omega) w hr
          replace hok' := Lib.hid hok'
          replace hp := Lib.hid hp
          replace hq := Lib.hid hq
          clear hok
          go_wp2_with fail
          refine (hy _ (hL.get (P := pR A l) (by repeat (first | exact List.mem_cons_self | apply List.mem_cons_of_mem)))).mono ?_
          rintro e w2 ⟨rfl, hb⟩
          replace hL := hL.go hb
          have hrl := ((hL.go ((Below.refl _ _).alloc (Nat.le_refl _) (.cells #[.int .i64 0, .bool false, .slice none 0 0, .int .i64 0, .int .i64 0, .bool false] 27))).go ((Below.refl _ _).alloc (Nat.le_refl _) (.cells #[.int .u8 45] 5))).get (P := pR A l) (by repeat (first | exact List.mem_cons_self | apply List.mem_cons_of_mem))
          replace hL := hL.go ((Below.refl _ _).alloc (Nat.le_refl _) (.cells #[.int .i64 0, .bool false, .slice none 0 0, .int .i64 0, .int .i64 0, .bool false] 27))
          clear hb hy
          go_wp2_with (at_builtin; refine wpList_app rfl _ _ rfl (w2.heap.size + 1) [45] l rfl rfl rfl hn.symm ?own hrl ?hbase ?hsz ?_)
          case own => exact ownB_lit2 _ _ [45] _ rfl (by decide)
          case hbase => simp
          case hsz => simp; omega
          intro g3 c3 w3 how hb
          replace hL := hL.go (below_app hb)
          clear hb hrl
          go_wp2_with fail
          refine (hy2 _ _ _ how.rd).mono ?_
          rintro e w4 ⟨rfl, hb⟩
          replace hL := hL.go hb
          replace hL := hL.go ((Below.refl _ _).alloc (Nat.le_refl _) (.cells #[.int .i64 0, .bool false, .slice none 0 0, .int .i64 0, .int .i64 0, .bool false] 27))
          clear hb how hy2
          go_wp2
          go_ret
          exact ⟨rfl, hL.below⟩
    · obtain ⟨b, off, rfl, hb⟩ := hr.place.resolve_left hl0
      have hn0 : (0 : Int) < (n : Int) := by
        have := List.length_pos_iff.2 hl0
        omega
      · have hx : ∃ x, l.getD 0 0 = x ∧ x ≠ 45 := ⟨_, rfl, fun e => h45 (by
          match l, hn with
          | [], h => rw [← h] at hn0; simp at hn0
          | y :: t, _ => exact ⟨t, by rw [show y = 45 from e]⟩)⟩
        obtain ⟨x, hx1, hx2⟩ := hx
        go_enter Tryd.func8, Tryd.ntmps8
        go_wp2_with fail
        refine (shown_any w hT).mono ?_
        rintro e w1 ⟨rfl, hb⟩
        replace hL := hL.go hb
        clear hb
        have hc0 : w1.cell? ⟨b, off, none⟩ = some (.int .u8 (x.toNat : Nat)) := by
          rw [← hx1]
          exact (hL.get (P := pR (some ⟨b, off, none⟩) l) (by repeat (first | exact List.mem_cons_self | apply List.mem_cons_of_mem))).cells b off rfl 0 (by omega)
        have hx45 : (x.toNat : Int) ≠ 45 := fun e => hx2 (UInt8.toNat_inj.1 (by show x.toNat = 45; omega))
        by_cases hok : (textS l).1 = true
        · obtain ⟨it, hit⟩ : ∃ x, textV 1125899906842624 l = x := ⟨_, rfl⟩
          have hy := fun w hr => scan_yes (A := (some ⟨b, off, none⟩)) (c := c) l it n hok hit hn (by omega) w hr
          have hy2 := fun A c w hr => scan_yes (A := A) (c := c) (45 :: l) ⟨it.kind, true, it.d, it.k, it.big, it.cut⟩ (n + 1) (by rw [hs1, hok]) (by rw [hs3, hit]) (by rw [List.length_cons, hn]) (by omega) w hr
          replace hit := Lib.hid hit
          replace hok := Lib.hid hok
          go_wp2_with fail
          refine (hy _ (hL.get (P := pR (some ⟨b, off, none⟩) l) (by repeat (first | exact List.mem_cons_self | apply List.mem_cons_of_mem)))).mono ?_
          rintro e w2 ⟨A2, n2, c2, rfl, hd, hb⟩
          replace hL := (hL.go hb).put (pItemN_st _ _ _) hd
          have hz2 : w.heap.size ≤ w2.heap.size := hL.size
          have hrl := ((hL.go ((Below.refl _ _).alloc (Nat.le_refl _) (.cells #[.int .i64 (it.kind : Nat), .bool it.neg, .slice A2 n2 c2, .int .i64 it.k, .int .i64 it.big, .bool it.cut] 27))).go ((Below.refl _ _).alloc (Nat.le_refl _) (.cells #[.int .u8 45] 5))).get (P := pR (some ⟨b, off, none⟩) l) (by repeat (first | exact List.mem_cons_self | apply List.mem_cons_of_mem))
          replace hL := (hL.go ((Below.refl _ _).alloc (Nat.le_refl _) (.cells #[.int .i64 (it.kind : Nat), .bool it.neg, .slice A2 n2 c2, .int .i64 it.k, .int .i64 it.big, .bool it.cut] 27))).put (pBlk_st _ _ _) (pBlk_made w2 _ 27)
          have hX : Below w2.heap.size w2 (w2.alloc (.cells #[.int .i64 (it.kind : Nat), .bool it.neg, .slice A2 n2 c2, .int .i64 it.k, .int .i64 it.big, .bool it.cut] 27)) := (Below.refl _ _).alloc (Nat.le_refl _) _
          clear hb hy
          go_wp2_with (at_builtin; refine wpList_app rfl _ _ rfl (w2.heap.size + 1) [45] l rfl rfl rfl hn.symm ?own hrl ?hbase ?hsz ?_)
          case own => exact ownB_lit2 _ _ [45] _ rfl (by decide)
          case hbase => simp
          case hsz => simp; omega
          intro g3 c3 w3 how hb
          replace hb := below_app hb
          replace hL := hL.go hb
          replace hX := chain hX hb
          have hz3 : w2.heap.size < w3.heap.size := (hL.get (P := pBlk w2.heap.size #[.int .i64 (it.kind : Nat), .bool it.neg, .slice A2 n2 c2, .int .i64 it.k, .int .i64 it.big, .bool it.cut] 27) (by repeat (first | exact List.mem_cons_self | apply List.mem_cons_of_mem))).lt
          clear hb hrl
          go_wp2_with fail
          refine (hy2 _ _ _ how.rd).mono ?_
          rintro e w4 ⟨A4, n4, c4, rfl, hd4, hb⟩
          replace hL := hL.go hb
          replace hX := chain hX hb
          have hB := hL.get (P := pBlk w2.heap.size #[.int .i64 (it.kind : Nat), .bool it.neg, .slice A2 n2 c2, .int .i64 it.k, .int .i64 it.big, .bool it.cut] 27) (by repeat (first | exact List.mem_cons_self | apply List.mem_cons_of_mem))
          have hz4 : w2.heap.size < w4.heap.size := hB.lt
          have f1 := hB.free 1
          have g0 := hB.cell 0 _ rfl
          have g1 := hB.cell 1 _ rfl
          have g2 := hB.cell 2 _ rfl
          have g3' := hB.cell 3 _ rfl
          have g4 := hB.cell 4 _ rfl
          have g5 := hB.cell 5 _ rfl
          have hw := hL.below
          have hw2 : w.heap.size ≤ w2.heap.size := hz2
          clear hb hB how hy2 hL
          have hX5 := (hX.setCell (p := ⟨w2.heap.size, 1, none⟩) (Nat.le_refl _) (.bool true)).alloc (by rw [size_setCell]; exact Nat.le_of_lt hz4) (.cells #[.int .i64 (it.kind : Nat), .bool true, .slice A4 n4 c4, .int .i64 it.k, .int .i64 it.big, .bool it.cut] 27)
          have hx5 := (pItem_again hd.item).below hX5
          have hy5 := (pItemN_st _ _ _ _ _ (hd4.setCell (p := ⟨w2.heap.size, 1, none⟩) (.bool true) hz3) ((Below.refl _ _).alloc (Nat.le_refl _) (.cells #[.int .i64 (it.kind : Nat), .bool true, .slice A4 n4 c4, .int .i64 it.k, .int .i64 it.big, .bool it.cut] 27))).item
          have hfin := (hw.setCell (p := ⟨w2.heap.size, 1, none⟩) hw2 (.bool true)).alloc (by rw [size_setCell]; omega) (.cells #[.int .i64 (it.kind : Nat), .bool true, .slice A4 n4 c4, .int .i64 it.k, .int .i64 it.big, .bool it.cut] 27)
          go_wp2_with fail
          refine (same_any (it := ⟨it.kind, true, it.d, it.k, it.big, it.cut⟩) _ ⟨_, rfl, hx5⟩ hy5).mono ?_
          rintro e w6 ⟨rfl, hb⟩
          replace hfin := chain hfin hb
          clear hb hX hX5 hx5 hy5 hw f1 g0 g1 g2 g3' g4 g5
          go_wp2
          go_ret
          exact ⟨rfl, hfin⟩
        · have hok' : (textS l).1 = false := by simpa using hok
          obtain ⟨p, hp⟩ : ∃ p, (textS l).2 = p := ⟨_, rfl⟩
          have hpn : p ≤ n := by rw [← hn, ← hp]; exact (text_place l hok').1
          obtain ⟨q, hq⟩ : ∃ q, p + 1 = q := ⟨_, rfl⟩
          have hqi : (p : Int) + 1 = (q : Int) := by omega
          have hy := fun w hr => scan_no (A := (some ⟨b, off, none⟩)) (c := c) l p n hok' hp hn (by omega) w hr
          have hy2 := fun A c w hr => scan_no (A := A) (c := c) (45 :: l) q (n + 1) (by rw [hs1, hok']) (by rw [hs2, hp, hq]) (by rw [List.length_cons, hn]) (by omega) w hr
          replace hok' := Lib.hid hok'
          replace hp := Lib.hid hp
          replace hq := Lib.hid hq
          clear hok
          go_wp2_with fail
          refine (hy _ (hL.get (P := pR (some ⟨b, off, none⟩) l) (by repeat (first | exact List.mem_cons_self | apply List.mem_cons_of_mem)))).mono ?_
          rintro e w2 ⟨rfl, hb⟩
          replace hL := hL.go hb
          have hrl := ((hL.go ((Below.refl _ _).alloc (Nat.le_refl _) (.cells #[.int .i64 0, .bool false, .slice none 0 0, .int .i64 0, .int .i64 0, .bool false] 27))).go ((Below.refl _ _).alloc (Nat.le_refl _) (.cells #[.int .u8 45] 5))).get (P := pR (some ⟨b, off, none⟩) l) (by repeat (first | exact List.mem_cons_self | apply List.mem_cons_of_mem))
          replace hL := hL.go ((Below.refl _ _).alloc (Nat.le_refl _) (.cells #[.int .i64 0, .bool false, .slice none 0 0, .int .i64 0, .int .i64 0, .bool false] 27))
          clear hb hy
          go_wp2_with (at_builtin; refine wpList_app rfl _ _ rfl (w2.heap.size + 1) [45] l rfl rfl rfl hn.symm ?own hrl ?hbase ?hsz ?_)
          case own => exact ownB_lit2 _ _ [45] _ rfl (by decide)
          case hbase => simp
          case hsz => simp; omega
          intro g3 c3 w3 how hb
          replace hL := hL.go (below_app hb)
          clear hb hrl
          go_wp2_with fail
          refine (hy2 _ _ _ how.rd).mono ?_
          rintro e w4 ⟨rfl, hb⟩
          replace hL := hL.go hb
          replace hL := hL.go ((Below.refl _ _).alloc (Nat.le_refl _) (.cells #[.int .i64 0, .bool false, .slice none 0 0, .int .i64 0, .int .i64 0, .bool false] 27))
          clear hb how hy2
          go_wp2
          go_ret
          exact ⟨rfl, hL.below⟩
end Go.Proofs.YtlpcfbilembilaaDoor
