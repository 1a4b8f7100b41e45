/- The law ScanBounds, walked. Condition: the table of powers reads as it is laid. -/
import Derived.Test.YtlpcfbilembilaaDoorScanG
import Derived.Test.YtlpcfbilembilaaDoorScanZ
import Derived.Test.YtlpcfbilembilaaDoorLawFar
import Derived.BigQuiet
namespace Go.Proofs.YtlpcfbilembilaaDoor
open Go.RowKit Go.Cal
theorem pT_some {A : Option Addr} {n c k X : Nat} {w : World} (h : pT (.slice A n c) k X w) (hX : X ≠ 0) : 0 < n := by
  obtain ⟨A', c', zs, he, _, _, _, _, hn⟩ := h
  injection he with e1 e2 e3
  rcases Nat.eq_zero_or_pos n with h0 | h0
  · have : zs = [] := List.length_eq_zero_iff.1 (by omega)
    subst this
    exact absurd hn.val.symm hX
  · exact h0
set_option maxRecDepth 100000 in
set_option maxHeartbeats 2000000 in
theorem scanBounds_any (v : Value) (w : World) (hT : Tab10 w) (h0 : ArgB w v) :
    Calls Tryd.prog 7 #[v] w fun e w' => e = .returned (.bool true) ∧ Below w.heap.size w w' := by
  obtain ⟨A, c, k, l, rfl, hr, hmi, hmc, hcm, hl⟩ := h0.cut 3000
  obtain ⟨n, hn⟩ : ∃ n, l.length = n := ⟨_, rfl⟩
  have hsl := fun w => slice_head A k c (l.length : Int) w (by omega) hmc
  simp only [hn, Int.toNat_natCast] at hsl
  rw [hn] at hmi hmc hl
  replace hmi : min (k : Int) 3000 = (n : Int) := hmi
  have hL := (LiveP.start w).put (pR_st A l) hr
  by_cases hok : (textS l).1 = true
  · obtain ⟨it, hit⟩ : ∃ x, textV 1125899906842624 l = x := ⟨_, rfl⟩
    have hB := textV_bnd 1125899906842624 l
    rw [hit] at hB
    have hl0 : l ≠ [] := by rintro rfl; revert hok; decide
    obtain ⟨b, off, rfl, hb⟩ := hr.place.resolve_left hl0
    have hn0 : (0 : Int) < (n : Int) := by
      have := List.length_pos_iff.2 hl0
      omega
    have hk0 : (0 : Int) < (k : Int) := by omega
    have hk0n : 0 < k := by omega
    have hkd : decide (0 < k) = true := decide_eq_true hk0n
    have hcx : ∀ w' : World, pR (some ⟨b, off, none⟩) l w' → w'.cell? ⟨b, off, none⟩ = some (.int .u8 ((l.getD 0 0).toNat : Nat)) := fun w' h => h.cells b off rfl 0 (by omega)
    have hy := fun w hr => scan_yes (A := some ⟨b, off, none⟩) (c := c) l it n hok hit hn (by omega) w hr
    obtain ⟨kd, ng, d, kk, bg, ct⟩ := it
    obtain ⟨hng, hz, ⟨hk1, hk4⟩, hs⟩ := hB
    simp only at hng hz hk1 hk4 hs hy
    replace hz := Lib.hid hz
    replace hs := Lib.hid hs
    replace hit := Lib.hid hit
    replace hok := Lib.hid hok
    replace hn := Lib.hid hn
    by_cases hx : l.head? = some 45
    · have hx1 : l.getD 0 0 = 45 := by rw [List.getD_eq_getElem?_getD, ← List.head?_eq_getElem?, hx]; rfl
      rw [hx1] at hcx
      replace hng : ng = true := by rw [hng, hx]; rfl
      subst hng
      replace hcx : ∀ w' : World, pR (some ⟨b, off, none⟩) l w' → w'.cell? ⟨b, off, none⟩ = some (.int .u8 45) := hcx
      clear hx1
      replace hx := Lib.hid hx
      go_enter Tryd.func7, Tryd.ntmps7
      go_wp2_with fail
      refine (shown_any w hT).mono ?_
      rintro e w1 ⟨rfl, hb1⟩
      replace hL := hL.go hb1
      clear hb1
      go_wp2_with fail
      refine (hy _ (hL.get (P := pR (some ⟨b, off, none⟩) l) (by repeat (first | exact List.mem_cons_self | apply List.mem_cons_of_mem)))).mono ?_
      rintro e w2 ⟨A2, n2, c2, rfl, hd, hb2⟩
      have hcell := hcx _ ((hL.go hb2).get (P := pR (some ⟨b, off, none⟩) l) (by repeat (first | exact List.mem_cons_self | apply List.mem_cons_of_mem)))
      have hbw : b < w2.heap.size := Nat.lt_of_lt_of_le hb (hL.go hb2).size
      replace hL := (hL.go hb2).put (pItemN_st _ _ _) hd
      have hd' : pT (.slice A2 n2 c2) 2000 d w2 := pItem_again hd.item
      replace hL := hL.put (pT_st _ _ _) hd'
      replace hL := (hL.go ((Below.refl _ _).alloc (Nat.le_refl _) (.cells #[.int .i64 (kd : Nat), .bool true, .slice A2 n2 c2, .int .i64 kk, .int .i64 bg, .bool ct] 27))).put (pBlk_st _ _ _) (pBlk_made w2 _ 27)
      clear hb2 hd
      by_cases hd0 : d = 0
      · obtain ⟨rfl, rfl, hkb⟩ := hz.out hd0
        subst hd0
        obtain rfl := pT_zero hd'
        rcases hkb with rfl | rfl
        · go_wp2
          go_quiet (fail)
          go_wp2
          go_ret
          exact ⟨rfl, hL.below.trans (Drawn.below ⟨_, rfl⟩ _)⟩
        · obtain rfl | rfl | rfl | rfl : kd = 1 ∨ kd = 2 ∨ kd = 3 ∨ kd = 4 := by omega
          · go_wp2
            go_quiet (fail)
            go_wp2
            go_ret
            exact ⟨rfl, hL.below.trans (Drawn.below ⟨_, rfl⟩ _)⟩
          · go_wp2
            go_quiet (fail)
            go_wp2
            go_ret
            exact ⟨rfl, hL.below.trans (Drawn.below ⟨_, rfl⟩ _)⟩
          · go_wp2
            go_quiet (fail)
            go_wp2
            go_ret
            exact ⟨rfl, hL.below.trans (Drawn.below ⟨_, rfl⟩ _)⟩
          · go_wp2
            go_quiet (fail)
            go_wp2
            go_ret
            exact ⟨rfl, hL.below.trans (Drawn.below ⟨_, rfl⟩ _)⟩
      · obtain ⟨rfl, rfl, r, ch, hdec, hch, hr1, hr2, hr3, hr4⟩ := hs.out hd0
        have hn2 := pT_some hd' hd0
        have htx := fun n => stext_t (hT.below (hL.go (Drawn.below ⟨n, rfl⟩ _)).below) (IsT.isN ((hL.go (Drawn.below ⟨n, rfl⟩ _)).get (P := pT (.slice A2 n2 c2) 2000 d) (by repeat (first | exact List.mem_cons_self | apply List.mem_cons_of_mem)))) (by decide)
        simp only [hdec] at htx
        obtain ⟨q, hq⟩ : ∃ q, r.length = q := ⟨_, rfl⟩
        rw [hq] at hr1 hr2 hr3 hr4
        have hchi : ¬ (ch.toNat : Int) = 48 := fun e => hch (UInt8.toNat_inj.1 (by show ch.toNat = 48; omega))
        obtain ⟨s, hs', hsz, hg⟩ : ∃ s, strL (r ++ [ch]) = s ∧ s.size = q + 1 ∧ ∀ h : q < s.size, s[q] = ch := ⟨_, rfl, by rw [strL_size, List.length_append, hq]; rfl, fun h => by rw [strL_get, List.getD_eq_getElem?_getD, ← hq]; simp⟩
        replace htx : ∀ n, Calls Tryd.prog 15 #[.slice A2 n2 c2] _ fun e w' => e = .returned (.string (strL (r ++ [ch]))) ∧ Below _ _ w' := fun n => htx n
        simp only [hs'] at htx
        replace htx := Lib.hid htx
        clear hs hz hdec hs' hd'
        go_wp2
        go_quiet (fail)
        go_wp2_with fail
        refine (htx.out _).mono ?_
        rintro e w3 ⟨rfl, hb3⟩
        replace hL := (hL.go (Drawn.below ⟨_, rfl⟩ _)).go hb3
        have hB := hL.get (P := pBlk w2.heap.size #[.int .i64 (1 : Nat), .bool true, .slice A2 n2 c2, .int .i64 kk, .int .i64 0, .bool ct] 27) (by repeat (first | exact List.mem_cons_self | apply List.mem_cons_of_mem))
        have g0 := hB.cell 0 _ rfl
        have g3 := hB.cell 3 _ rfl
        have g4 := hB.cell 4 _ rfl
        have g5 := hB.cell 5 _ rfl
        clear hB hb3 htx
        cases ct
        · have hq2 : ¬ (q : Int) = 1990 := fun e => by simp at hr2; omega
          have hv1 : ((ch.toNat : Int) != 48) = true := by simpa using hchi
          have hv2 : ((q : Int) + 1 == 1991) = false := by simp; omega
          go_wp2
          go_ret
          exact ⟨rfl, hL.below⟩
        · obtain rfl : q = 1990 := by simp at hr2; omega
          have hv1 : ((ch.toNat : Int) != 48) = true := by simpa using hchi
          have hv3 : 1991 + kk ≤ 1000 := by omega
          have hv4 : -1000 < 1991 + kk := by omega
          clear hr3 hr4
          go_wp2
          go_ret
          exact ⟨rfl, hL.below⟩
    · obtain ⟨x, hx1⟩ : ∃ x, l.getD 0 0 = x := ⟨_, rfl⟩
      have hx45 : ¬ (x.toNat : Int) = 45 := fun e => hx (by
        match l, hl0, hx1 with
        | y :: t, _, hx1 =>
          have e1 : y = x := hx1
          have e2 : x = 45 := UInt8.toNat_inj.1 (by show x.toNat = 45; omega)
          rw [e1, e2]; rfl)
      rw [hx1] at hcx
      have hx45d : decide ((x.toNat : Int) = 45) = false := decide_eq_false hx45
      replace hng : ng = false := by rw [hng]; exact beq_eq_false_iff_ne.2 hx
      subst hng
      clear hx1
      replace hx := Lib.hid hx
      go_enter Tryd.func7, Tryd.ntmps7
      go_wp2_with fail
      refine (shown_any w hT).mono ?_
      rintro e w1 ⟨rfl, hb1⟩
      replace hL := hL.go hb1
      clear hb1
      go_wp2_with fail
      refine (hy _ (hL.get (P := pR (some ⟨b, off, none⟩) l) (by repeat (first | exact List.mem_cons_self | apply List.mem_cons_of_mem)))).mono ?_
      rintro e w2 ⟨A2, n2, c2, rfl, hd, hb2⟩
      have hcell := hcx _ ((hL.go hb2).get (P := pR (some ⟨b, off, none⟩) l) (by repeat (first | exact List.mem_cons_self | apply List.mem_cons_of_mem)))
      have hbw : b < w2.heap.size := Nat.lt_of_lt_of_le hb (hL.go hb2).size
      replace hL := (hL.go hb2).put (pItemN_st _ _ _) hd
      have hd' : pT (.slice A2 n2 c2) 2000 d w2 := pItem_again hd.item
      replace hL := hL.put (pT_st _ _ _) hd'
      replace hL := (hL.go ((Below.refl _ _).alloc (Nat.le_refl _) (.cells #[.int .i64 (kd : Nat), .bool false, .slice A2 n2 c2, .int .i64 kk, .int .i64 bg, .bool ct] 27))).put (pBlk_st _ _ _) (pBlk_made w2 _ 27)
      clear hb2 hd
      by_cases hd0 : d = 0
      · obtain ⟨rfl, rfl, hkb⟩ := hz.out hd0
        subst hd0
        obtain rfl := pT_zero hd'
        rcases hkb with rfl | rfl
        · go_wp2
          go_quiet (fail)
          go_wp2
          go_ret
          exact ⟨rfl, hL.below.trans (Drawn.below ⟨_, rfl⟩ _)⟩
        · obtain rfl | rfl | rfl | rfl : kd = 1 ∨ kd = 2 ∨ kd = 3 ∨ kd = 4 := by omega
          · go_wp2
            go_quiet (fail)
            go_wp2
            go_ret
            exact ⟨rfl, hL.below.trans (Drawn.below ⟨_, rfl⟩ _)⟩
          · go_wp2
            go_quiet (fail)
            go_wp2
            go_ret
            exact ⟨rfl, hL.below.trans (Drawn.below ⟨_, rfl⟩ _)⟩
          · go_wp2
            go_quiet (fail)
            go_wp2
            go_ret
            exact ⟨rfl, hL.below.trans (Drawn.below ⟨_, rfl⟩ _)⟩
          · go_wp2
            go_quiet (fail)
            go_wp2
            go_ret
            exact ⟨rfl, hL.below.trans (Drawn.below ⟨_, rfl⟩ _)⟩
      · obtain ⟨rfl, rfl, r, ch, hdec, hch, hr1, hr2, hr3, hr4⟩ := hs.out hd0
        have hn2 := pT_some hd' hd0
        have htx := fun n => stext_t (hT.below (hL.go (Drawn.below ⟨n, rfl⟩ _)).below) (IsT.isN ((hL.go (Drawn.below ⟨n, rfl⟩ _)).get (P := pT (.slice A2 n2 c2) 2000 d) (by repeat (first | exact List.mem_cons_self | apply List.mem_cons_of_mem)))) (by decide)
        simp only [hdec] at htx
        obtain ⟨q, hq⟩ : ∃ q, r.length = q := ⟨_, rfl⟩
        rw [hq] at hr1 hr2 hr3 hr4
        have hchi : ¬ (ch.toNat : Int) = 48 := fun e => hch (UInt8.toNat_inj.1 (by show ch.toNat = 48; omega))
        obtain ⟨s, hs', hsz, hg⟩ : ∃ s, strL (r ++ [ch]) = s ∧ s.size = q + 1 ∧ ∀ h : q < s.size, s[q] = ch := ⟨_, rfl, by rw [strL_size, List.length_append, hq]; rfl, fun h => by rw [strL_get, List.getD_eq_getElem?_getD, ← hq]; simp⟩
        replace htx : ∀ n, Calls Tryd.prog 15 #[.slice A2 n2 c2] _ fun e w' => e = .returned (.string (strL (r ++ [ch]))) ∧ Below _ _ w' := fun n => htx n
        simp only [hs'] at htx
        replace htx := Lib.hid htx
        clear hs hz hdec hs' hd'
        go_wp2
        go_quiet (fail)
        go_wp2_with fail
        refine (htx.out _).mono ?_
        rintro e w3 ⟨rfl, hb3⟩
        replace hL := (hL.go (Drawn.below ⟨_, rfl⟩ _)).go hb3
        have hB := hL.get (P := pBlk w2.heap.size #[.int .i64 (1 : Nat), .bool false, .slice A2 n2 c2, .int .i64 kk, .int .i64 0, .bool ct] 27) (by repeat (first | exact List.mem_cons_self | apply List.mem_cons_of_mem))
        have g0 := hB.cell 0 _ rfl
        have g3 := hB.cell 3 _ rfl
        have g4 := hB.cell 4 _ rfl
        have g5 := hB.cell 5 _ rfl
        clear hB hb3 htx
        cases ct
        · have hq2 : ¬ (q : Int) = 1990 := fun e => by simp at hr2; omega
          have hv1 : ((ch.toNat : Int) != 48) = true := by simpa using hchi
          have hv2 : ((q : Int) + 1 == 1991) = false := by simp; omega
          go_wp2
          go_ret
          exact ⟨rfl, hL.below⟩
        · obtain rfl : q = 1990 := by simp at hr2; omega
          have hv1 : ((ch.toNat : Int) != 48) = true := by simpa using hchi
          have hv3 : 1991 + kk ≤ 1000 := by omega
          have hv4 : -1000 < 1991 + kk := by omega
          clear hr3 hr4
          go_wp2
          go_ret
          exact ⟨rfl, hL.below⟩
  · have hok' : (textS l).1 = false := by simpa using hok
    obtain ⟨p, hp⟩ : ∃ p, (textS l).2 = p := ⟨_, rfl⟩
    have hy := fun w hr => scan_no (A := A) (c := c) l p n hok' hp hn (by omega) w hr
    replace hp := Lib.hid hp
    replace hok' := Lib.hid hok'
    replace hn := Lib.hid hn
    clear hok
    go_enter Tryd.func7, Tryd.ntmps7
    go_wp2_with fail
    refine (shown_any w hT).mono ?_
    rintro e w1 ⟨rfl, hb⟩
    replace hL := hL.go hb
    clear hb
    go_wp2_with fail
    refine (hy _ (hL.get (P := pR A l) (by repeat (first | exact List.mem_cons_self | apply List.mem_cons_of_mem)))).mono ?_
    rintro e w2 ⟨rfl, hb⟩
    replace hL := hL.go hb
    replace hL := hL.go ((Below.refl _ _).alloc (Nat.le_refl _) (.cells #[.int .i64 0, .bool false, .slice none 0 0, .int .i64 0, .int .i64 0, .bool false] 27))
    clear hb
    go_wp2_with fail
    refine (same_any (it := noItem) _ ⟨_, rfl, .none0 _⟩ ⟨_, rfl, .none0 _⟩).mono ?_
    rintro e w3 ⟨rfl, hb⟩
    replace hL := hL.go hb
    clear hb
    go_wp2
    go_ret
    exact ⟨rfl, hL.below⟩
end Go.Proofs.YtlpcfbilembilaaDoor
