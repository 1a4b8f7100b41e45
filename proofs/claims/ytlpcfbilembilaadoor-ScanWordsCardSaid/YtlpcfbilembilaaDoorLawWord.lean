/- The law ScanWords, walked. Condition: the table of powers reads as it is laid. -/
import Derived.Test.YtlpcfbilembilaaDoorScanH
namespace Go.Proofs.YtlpcfbilembilaaDoor
open Go.RowKit Go.Cal
set_option maxRecDepth 100000 in
set_option maxHeartbeats 2000000 in
theorem scanWords_any (wh at' : Int) (v : Value) (w : World) (hT : Tab10 w) (_hw : -9223372036854775808 ≤ wh ∧ wh ≤ 9223372036854775807) (_ha : -9223372036854775808 ≤ at' ∧ at' ≤ 9223372036854775807) (h0 : ArgB w v) :
    Calls Tryd.prog 5 #[.int .i64 wh, .int .i64 at', v] w fun e w' => e = .returned (.bool true) ∧ Below w.heap.size w w' := by
  obtain ⟨A, c, k, l, rfl, hr, hmi, hmc, hcm, hl⟩ := h0.cut 20
  obtain ⟨n, hn⟩ : ∃ n, l.length = n := ⟨_, rfl⟩
  have hsl := fun w => slice_head A k c (l.length : Int) w (by omega) hmc
  simp only [hn, Int.toNat_natCast] at hsl
  rw [hn] at hmi hmc hl
  replace hmi : min (k : Int) 20 = (n : Int) := hmi
  have hL := (LiveP.start w).put (pR_st A l) hr
  obtain ⟨m0, hm0, hm1⟩ := and_low wh
  obtain ⟨a, hm2, ha4⟩ := and_3 at'
  obtain ⟨q, hq⟩ : ∃ q, m0 % 3 = q := ⟨_, rfl⟩
  obtain rfl | rfl | rfl : q = 0 ∨ q = 1 ∨ q = 2 := by omega
  · have hqi : (m0 : Int) % 3 = 0 := by omega
    have hcv := fun w => run_bytes_of_string (P := Tryd.prog) w 9 22 5 (strL [105, 110, 102]) sunder_str sunder_bytes sunder_byte
    have hwz : (strL [105, 110, 102]).size = 3 := rfl
    simp only [hwz] at hcv
    replace hcv : ∀ w, (convert 9 22 (.string ⟨#[105, 110, 102]⟩)).run Tryd.prog w = _ := hcv
    by_cases ha3 : a = 3
    · subst ha3
      have hxt : (⟨#[105, 110, 102]⟩ : ByteArray).extract 0 3 = ⟨#[105, 110, 102]⟩ := by rw [show (⟨#[105, 110, 102]⟩ : ByteArray) = strL [105, 110, 102] from rfl, strL_cut]; rfl
      have hy := fun A c w hr => scan_yes (A := A) (c := c) [105, 110, 102] ⟨0 + 2, false, 0, 0, 0, false⟩ 3 (by decide) (by kernel_rfl) rfl (by decide) w hr
      go_enter Tryd.func5, Tryd.ntmps5
      go_wp2_with fail
      refine (shown_any w hT).mono ?_
      rintro e w1 ⟨rfl, hb⟩
      replace hL := hL.go hb
      clear hb
      go_wp2_with fail
      refine (hy _ _ _ (rd_bytes2 w1 _ [105, 110, 102] _ _)).mono ?_
      rintro e w2 ⟨A2, n2, c2, rfl, hd, hb⟩
      replace hL := hL.go (((((Below.refl _ _).alloc (Nat.le_refl _) _).alloc (by simp) _).drew).trans (hb.mono (by simp; omega)))
      clear hb hd hy
      have hrl := ((hL.go ((Below.refl _ _).alloc (Nat.le_refl _) (.cells #[.int .i64 (0 + 2 : Nat), .bool false, .slice A2 n2 c2, .int .i64 0, .int .i64 0, .bool false] 27))).go (((Below.refl _ _).alloc (Nat.le_refl _) (.cells (bytesRow (strL [105, 110, 102]) (grownCap (w2.alloc (.cells #[.int .i64 (0 + 2 : Nat), .bool false, .slice A2 n2 c2, .int .i64 0, .int .i64 0, .bool false] 27)) 3 0 5)) 5 ((bytesRow (strL [105, 110, 102]) (grownCap (w2.alloc (.cells #[.int .i64 (0 + 2 : Nat), .bool false, .slice A2 n2 c2, .int .i64 0, .int .i64 0, .bool false] 27)) 3 0 5)).size, (bytesRow (strL [105, 110, 102]) (grownCap (w2.alloc (.cells #[.int .i64 (0 + 2 : Nat), .bool false, .slice A2 n2 c2, .int .i64 0, .int .i64 0, .bool false] 27)) 3 0 5)).size + 1))).drew)).get (P := pR A l) (by repeat (first | exact List.mem_cons_self | apply List.mem_cons_of_mem))
      replace hL := hL.go ((Below.refl _ _).alloc (Nat.le_refl _) (.cells #[.int .i64 (0 + 2 : Nat), .bool false, .slice A2 n2 c2, .int .i64 0, .int .i64 0, .bool false] 27))
      go_wp2_with (at_builtin; refine wpList_app rfl _ _ rfl (w2.heap.size + 1) [105, 110, 102] l rfl rfl rfl hn.symm ?own hrl ?hbase ?hsz ?_)
      case own => exact ownB_bytes2 _ _ _ [105, 110, 102] (grownCap_few _ 3 _ (by omega)).1 (grownCap_few _ 3 _ (by omega)).2
      case hbase => simp
      case hsz => simp; omega
      intro g3 c3 w3 how hb
      replace hL := hL.go (below_app2 hb)
      clear hb hrl
      by_cases hl0 : l = []
      · have hn0 : n = 0 := by rw [← hn, hl0]; rfl
        have hy2 := fun A c w hr => scan_yes (A := A) (c := c) ([105, 110, 102] ++ l) ⟨0 + 2, false, 0, 0, 0, false⟩ (n + 3) (by rw [hl0]; decide) (by rw [hl0]; kernel_rfl) (by rw [List.length_append, hn]; simp; omega) (by omega) w hr
        subst hn0
        replace hl0 := Lib.hid hl0
        go_wp2_with fail
        refine (hy2 _ _ _ how.rd).mono ?_
        rintro e w4 ⟨A4, n4, c4, rfl, hd4, hb⟩
        replace hL := (hL.go hb).go ((Below.refl _ _).alloc (Nat.le_refl _) (.cells #[.int .i64 (0 + 2 : Nat), .bool false, .slice A4 n4 c4, .int .i64 0, .int .i64 0, .bool false] 27))
        clear hb how hd4 hy2
        go_wp2
        go_ret
        exact ⟨rfl, hL.below⟩
      · have hwm := word_more 105 110 102 (by decide) l hl0
        have hn0 : ¬ (n : Int) = 0 := fun e => hl0 (List.length_eq_zero_iff.1 (by omega))
        have hn0n : ¬ n = 0 := by omega
        have hy2 := fun A c w hr => scan_no (A := A) (c := c) ([105, 110, 102] ++ l) 3 (n + 3) (by rw [hwm]) (by rw [hwm]) (by rw [List.length_append, hn]; simp; omega) (by omega) w hr
        replace hl0 := Lib.hid hl0
        replace hwm := Lib.hid hwm
        go_wp2_with fail
        refine (hy2 _ _ _ how.rd).mono ?_
        rintro e w4 ⟨rfl, hb⟩
        replace hL := (hL.go hb).go ((Below.refl _ _).alloc (Nat.le_refl _) (.cells #[.int .i64 0, .bool false, .slice none 0 0, .int .i64 0, .int .i64 0, .bool false] 27))
        clear hb how hy2
        go_wp2
        go_ret
        exact ⟨rfl, hL.below⟩
    · have ha2 : a ≤ 2 := by omega
      have hai : (a : Int) < 3 := by omega
      have haj : ¬ (a : Int) = 3 := by omega
      have hno : (textS ([105, 110, 102].take a)).1 = false ∧ (textS ([105, 110, 102].take a)).2 = a ∧ (([105, 110, 102] : List UInt8).take a).length = a := by
        obtain rfl | rfl | rfl : a = 0 ∨ a = 1 ∨ a = 2 := by omega
        all_goals decide
      obtain ⟨L, hLd⟩ : ∃ L, ([105, 110, 102] : List UInt8).take a = L := ⟨_, rfl⟩
      rw [hLd] at hno
      have hxt : (⟨#[105, 110, 102]⟩ : ByteArray).extract 0 a = strL L := by rw [show (⟨#[105, 110, 102]⟩ : ByteArray) = strL [105, 110, 102] from rfl, strL_cut, hLd]
      have hcv2 := fun w => run_bytes_of_string (P := Tryd.prog) w 9 22 5 (strL L) sunder_str sunder_bytes sunder_byte
      have hLz : (strL L).size = a := by rw [strL_size, hno.2.2]
      simp only [hLz] at hcv2
      have hy := fun A c w hr => scan_no (A := A) (c := c) L a a hno.1 hno.2.1 hno.2.2 (by omega) w hr
      replace hno := Lib.hid hno
      replace hLd := Lib.hid hLd
      go_enter Tryd.func5, Tryd.ntmps5
      go_wp2_with fail
      refine (shown_any w hT).mono ?_
      rintro e w1 ⟨rfl, hb⟩
      replace hL := hL.go hb
      clear hb
      go_wp2_with fail
      refine (hy _ _ _ (rd_bytes2 w1 _ L _ _)).mono ?_
      rintro e w2 ⟨rfl, hb⟩
      replace hL := hL.go (((((Below.refl _ _).alloc (Nat.le_refl _) _).alloc (by simp) _).drew).trans (hb.mono (by simp; omega)))
      clear hb hy hcv2
      have hrl := ((hL.go ((Below.refl _ _).alloc (Nat.le_refl _) (.cells #[.int .i64 0, .bool false, .slice none 0 0, .int .i64 0, .int .i64 0, .bool false] 27))).go (((Below.refl _ _).alloc (Nat.le_refl _) (.cells (bytesRow (strL [105, 110, 102]) (grownCap (w2.alloc (.cells #[.int .i64 0, .bool false, .slice none 0 0, .int .i64 0, .int .i64 0, .bool false] 27)) 3 0 5)) 5 ((bytesRow (strL [105, 110, 102]) (grownCap (w2.alloc (.cells #[.int .i64 0, .bool false, .slice none 0 0, .int .i64 0, .int .i64 0, .bool false] 27)) 3 0 5)).size, (bytesRow (strL [105, 110, 102]) (grownCap (w2.alloc (.cells #[.int .i64 0, .bool false, .slice none 0 0, .int .i64 0, .int .i64 0, .bool false] 27)) 3 0 5)).size + 1))).drew)).get (P := pR A l) (by repeat (first | exact List.mem_cons_self | apply List.mem_cons_of_mem))
      replace hL := hL.go ((Below.refl _ _).alloc (Nat.le_refl _) (.cells #[.int .i64 0, .bool false, .slice none 0 0, .int .i64 0, .int .i64 0, .bool false] 27))
      go_wp2_with (at_builtin; refine wpList_app rfl _ _ rfl (w2.heap.size + 1) [105, 110, 102] l rfl rfl rfl hn.symm ?own hrl ?hbase ?hsz ?_)
      case own => exact ownB_bytes2 _ _ _ [105, 110, 102] (grownCap_few _ 3 _ (by omega)).1 (grownCap_few _ 3 _ (by omega)).2
      case hbase => simp
      case hsz => simp; omega
      intro g3 c3 w3 how hb
      replace hL := hL.go (below_app2 hb)
      clear hb hrl
      by_cases hl0 : l = []
      · have hn0 : n = 0 := by rw [← hn, hl0]; rfl
        have hy2 := fun A c w hr => scan_yes (A := A) (c := c) ([105, 110, 102] ++ l) ⟨0 + 2, false, 0, 0, 0, false⟩ (n + 3) (by rw [hl0]; decide) (by rw [hl0]; kernel_rfl) (by rw [List.length_append, hn]; simp; omega) (by omega) w hr
        subst hn0
        replace hl0 := Lib.hid hl0
        go_wp2_with fail
        refine (hy2 _ _ _ how.rd).mono ?_
        rintro e w4 ⟨A4, n4, c4, rfl, hd4, hb⟩
        replace hL := (hL.go hb).go ((Below.refl _ _).alloc (Nat.le_refl _) (.cells #[.int .i64 (0 + 2 : Nat), .bool false, .slice A4 n4 c4, .int .i64 0, .int .i64 0, .bool false] 27))
        clear hb how hd4 hy2
        go_wp2
        go_ret
        exact ⟨rfl, hL.below⟩
      · have hwm := word_more 105 110 102 (by decide) l hl0
        have hn0 : ¬ (n : Int) = 0 := fun e => hl0 (List.length_eq_zero_iff.1 (by omega))
        have hn0n : ¬ n = 0 := by omega
        have hy2 := fun A c w hr => scan_no (A := A) (c := c) ([105, 110, 102] ++ l) 3 (n + 3) (by rw [hwm]) (by rw [hwm]) (by rw [List.length_append, hn]; simp; omega) (by omega) w hr
        replace hl0 := Lib.hid hl0
        replace hwm := Lib.hid hwm
        go_wp2_with fail
        refine (hy2 _ _ _ how.rd).mono ?_
        rintro e w4 ⟨rfl, hb⟩
        replace hL := (hL.go hb).go ((Below.refl _ _).alloc (Nat.le_refl _) (.cells #[.int .i64 0, .bool false, .slice none 0 0, .int .i64 0, .int .i64 0, .bool false] 27))
        clear hb how hy2
        go_wp2
        go_ret
        exact ⟨rfl, hL.below⟩
  · have hqi : (m0 : Int) % 3 = 1 := by omega
    have hcv := fun w => run_bytes_of_string (P := Tryd.prog) w 9 22 5 (strL [110, 97, 110]) sunder_str sunder_bytes sunder_byte
    have hwz : (strL [110, 97, 110]).size = 3 := rfl
    simp only [hwz] at hcv
    replace hcv : ∀ w, (convert 9 22 (.string ⟨#[110, 97, 110]⟩)).run Tryd.prog w = _ := hcv
    by_cases ha3 : a = 3
    · subst ha3
      have hxt : (⟨#[110, 97, 110]⟩ : ByteArray).extract 0 3 = ⟨#[110, 97, 110]⟩ := by rw [show (⟨#[110, 97, 110]⟩ : ByteArray) = strL [110, 97, 110] from rfl, strL_cut]; rfl
      have hy := fun A c w hr => scan_yes (A := A) (c := c) [110, 97, 110] ⟨1 + 2, false, 0, 0, 0, false⟩ 3 (by decide) (by kernel_rfl) rfl (by decide) w hr
      go_enter Tryd.func5, Tryd.ntmps5
      go_wp2_with fail
      refine (shown_any w hT).mono ?_
      rintro e w1 ⟨rfl, hb⟩
      replace hL := hL.go hb
      clear hb
      go_wp2_with fail
      refine (hy _ _ _ (rd_bytes2 w1 _ [110, 97, 110] _ _)).mono ?_
      rintro e w2 ⟨A2, n2, c2, rfl, hd, hb⟩
      replace hL := hL.go (((((Below.refl _ _).alloc (Nat.le_refl _) _).alloc (by simp) _).drew).trans (hb.mono (by simp; omega)))
      clear hb hd hy
      have hrl := ((hL.go ((Below.refl _ _).alloc (Nat.le_refl _) (.cells #[.int .i64 (1 + 2 : Nat), .bool false, .slice A2 n2 c2, .int .i64 0, .int .i64 0, .bool false] 27))).go (((Below.refl _ _).alloc (Nat.le_refl _) (.cells (bytesRow (strL [110, 97, 110]) (grownCap (w2.alloc (.cells #[.int .i64 (1 + 2 : Nat), .bool false, .slice A2 n2 c2, .int .i64 0, .int .i64 0, .bool false] 27)) 3 0 5)) 5 ((bytesRow (strL [110, 97, 110]) (grownCap (w2.alloc (.cells #[.int .i64 (1 + 2 : Nat), .bool false, .slice A2 n2 c2, .int .i64 0, .int .i64 0, .bool false] 27)) 3 0 5)).size, (bytesRow (strL [110, 97, 110]) (grownCap (w2.alloc (.cells #[.int .i64 (1 + 2 : Nat), .bool false, .slice A2 n2 c2, .int .i64 0, .int .i64 0, .bool false] 27)) 3 0 5)).size + 1))).drew)).get (P := pR A l) (by repeat (first | exact List.mem_cons_self | apply List.mem_cons_of_mem))
      replace hL := hL.go ((Below.refl _ _).alloc (Nat.le_refl _) (.cells #[.int .i64 (1 + 2 : Nat), .bool false, .slice A2 n2 c2, .int .i64 0, .int .i64 0, .bool false] 27))
      go_wp2_with (at_builtin; refine wpList_app rfl _ _ rfl (w2.heap.size + 1) [110, 97, 110] l rfl rfl rfl hn.symm ?own hrl ?hbase ?hsz ?_)
      case own => exact ownB_bytes2 _ _ _ [110, 97, 110] (grownCap_few _ 3 _ (by omega)).1 (grownCap_few _ 3 _ (by omega)).2
      case hbase => simp
      case hsz => simp; omega
      intro g3 c3 w3 how hb
      replace hL := hL.go (below_app2 hb)
      clear hb hrl
      by_cases hl0 : l = []
      · have hn0 : n = 0 := by rw [← hn, hl0]; rfl
        have hy2 := fun A c w hr => scan_yes (A := A) (c := c) ([110, 97, 110] ++ l) ⟨1 + 2, false, 0, 0, 0, false⟩ (n + 3) (by rw [hl0]; decide) (by rw [hl0]; kernel_rfl) (by rw [List.length_append, hn]; simp; omega) (by omega) w hr
        subst hn0
        replace hl0 := Lib.hid hl0
        go_wp2_with fail
        refine (hy2 _ _ _ how.rd).mono ?_
        rintro e w4 ⟨A4, n4, c4, rfl, hd4, hb⟩
        replace hL := (hL.go hb).go ((Below.refl _ _).alloc (Nat.le_refl _) (.cells #[.int .i64 (1 + 2 : Nat), .bool false, .slice A4 n4 c4, .int .i64 0, .int .i64 0, .bool false] 27))
        clear hb how hd4 hy2
        go_wp2
        go_ret
        exact ⟨rfl, hL.below⟩
      · have hwm := word_more 110 97 110 (by decide) l hl0
        have hn0 : ¬ (n : Int) = 0 := fun e => hl0 (List.length_eq_zero_iff.1 (by omega))
        have hn0n : ¬ n = 0 := by omega
        have hy2 := fun A c w hr => scan_no (A := A) (c := c) ([110, 97, 110] ++ l) 3 (n + 3) (by rw [hwm]) (by rw [hwm]) (by rw [List.length_append, hn]; simp; omega) (by omega) w hr
        replace hl0 := Lib.hid hl0
        replace hwm := Lib.hid hwm
        go_wp2_with fail
        refine (hy2 _ _ _ how.rd).mono ?_
        rintro e w4 ⟨rfl, hb⟩
        replace hL := (hL.go hb).go ((Below.refl _ _).alloc (Nat.le_refl _) (.cells #[.int .i64 0, .bool false, .slice none 0 0, .int .i64 0, .int .i64 0, .bool false] 27))
        clear hb how hy2
        go_wp2
        go_ret
        exact ⟨rfl, hL.below⟩
    · have ha2 : a ≤ 2 := by omega
      have hai : (a : Int) < 3 := by omega
      have haj : ¬ (a : Int) = 3 := by omega
      have hno : (textS ([110, 97, 110].take a)).1 = false ∧ (textS ([110, 97, 110].take a)).2 = a ∧ (([110, 97, 110] : List UInt8).take a).length = a := by
        obtain rfl | rfl | rfl : a = 0 ∨ a = 1 ∨ a = 2 := by omega
        all_goals decide
      obtain ⟨L, hLd⟩ : ∃ L, ([110, 97, 110] : List UInt8).take a = L := ⟨_, rfl⟩
      rw [hLd] at hno
      have hxt : (⟨#[110, 97, 110]⟩ : ByteArray).extract 0 a = strL L := by rw [show (⟨#[110, 97, 110]⟩ : ByteArray) = strL [110, 97, 110] from rfl, strL_cut, hLd]
      have hcv2 := fun w => run_bytes_of_string (P := Tryd.prog) w 9 22 5 (strL L) sunder_str sunder_bytes sunder_byte
      have hLz : (strL L).size = a := by rw [strL_size, hno.2.2]
      simp only [hLz] at hcv2
      have hy := fun A c w hr => scan_no (A := A) (c := c) L a a hno.1 hno.2.1 hno.2.2 (by omega) w hr
      replace hno := Lib.hid hno
      replace hLd := Lib.hid hLd
      go_enter Tryd.func5, Tryd.ntmps5
      go_wp2_with fail
      refine (shown_any w hT).mono ?_
      rintro e w1 ⟨rfl, hb⟩
      replace hL := hL.go hb
      clear hb
      go_wp2_with fail
      refine (hy _ _ _ (rd_bytes2 w1 _ L _ _)).mono ?_
      rintro e w2 ⟨rfl, hb⟩
      replace hL := hL.go (((((Below.refl _ _).alloc (Nat.le_refl _) _).alloc (by simp) _).drew).trans (hb.mono (by simp; omega)))
      clear hb hy hcv2
      have hrl := ((hL.go ((Below.refl _ _).alloc (Nat.le_refl _) (.cells #[.int .i64 0, .bool false, .slice none 0 0, .int .i64 0, .int .i64 0, .bool false] 27))).go (((Below.refl _ _).alloc (Nat.le_refl _) (.cells (bytesRow (strL [110, 97, 110]) (grownCap (w2.alloc (.cells #[.int .i64 0, .bool false, .slice none 0 0, .int .i64 0, .int .i64 0, .bool false] 27)) 3 0 5)) 5 ((bytesRow (strL [110, 97, 110]) (grownCap (w2.alloc (.cells #[.int .i64 0, .bool false, .slice none 0 0, .int .i64 0, .int .i64 0, .bool false] 27)) 3 0 5)).size, (bytesRow (strL [110, 97, 110]) (grownCap (w2.alloc (.cells #[.int .i64 0, .bool false, .slice none 0 0, .int .i64 0, .int .i64 0, .bool false] 27)) 3 0 5)).size + 1))).drew)).get (P := pR A l) (by repeat (first | exact List.mem_cons_self | apply List.mem_cons_of_mem))
      replace hL := hL.go ((Below.refl _ _).alloc (Nat.le_refl _) (.cells #[.int .i64 0, .bool false, .slice none 0 0, .int .i64 0, .int .i64 0, .bool false] 27))
      go_wp2_with (at_builtin; refine wpList_app rfl _ _ rfl (w2.heap.size + 1) [110, 97, 110] l rfl rfl rfl hn.symm ?own hrl ?hbase ?hsz ?_)
      case own => exact ownB_bytes2 _ _ _ [110, 97, 110] (grownCap_few _ 3 _ (by omega)).1 (grownCap_few _ 3 _ (by omega)).2
      case hbase => simp
      case hsz => simp; omega
      intro g3 c3 w3 how hb
      replace hL := hL.go (below_app2 hb)
      clear hb hrl
      by_cases hl0 : l = []
      · have hn0 : n = 0 := by rw [← hn, hl0]; rfl
        have hy2 := fun A c w hr => scan_yes (A := A) (c := c) ([110, 97, 110] ++ l) ⟨1 + 2, false, 0, 0, 0, false⟩ (n + 3) (by rw [hl0]; decide) (by rw [hl0]; kernel_rfl) (by rw [List.length_append, hn]; simp; omega) (by omega) w hr
        subst hn0
        replace hl0 := Lib.hid hl0
        go_wp2_with fail
        refine (hy2 _ _ _ how.rd).mono ?_
        rintro e w4 ⟨A4, n4, c4, rfl, hd4, hb⟩
        replace hL := (hL.go hb).go ((Below.refl _ _).alloc (Nat.le_refl _) (.cells #[.int .i64 (1 + 2 : Nat), .bool false, .slice A4 n4 c4, .int .i64 0, .int .i64 0, .bool false] 27))
        clear hb how hd4 hy2
        go_wp2
        go_ret
        exact ⟨rfl, hL.below⟩
      · have hwm := word_more 110 97 110 (by decide) l hl0
        have hn0 : ¬ (n : Int) = 0 := fun e => hl0 (List.length_eq_zero_iff.1 (by omega))
        have hn0n : ¬ n = 0 := by omega
        have hy2 := fun A c w hr => scan_no (A := A) (c := c) ([110, 97, 110] ++ l) 3 (n + 3) (by rw [hwm]) (by rw [hwm]) (by rw [List.length_append, hn]; simp; omega) (by omega) w hr
        replace hl0 := Lib.hid hl0
        replace hwm := Lib.hid hwm
        go_wp2_with fail
        refine (hy2 _ _ _ how.rd).mono ?_
        rintro e w4 ⟨rfl, hb⟩
        replace hL := (hL.go hb).go ((Below.refl _ _).alloc (Nat.le_refl _) (.cells #[.int .i64 0, .bool false, .slice none 0 0, .int .i64 0, .int .i64 0, .bool false] 27))
        clear hb how hy2
        go_wp2
        go_ret
        exact ⟨rfl, hL.below⟩
  · have hqi : (m0 : Int) % 3 = 2 := by omega
    have hcv := fun w => run_bytes_of_string (P := Tryd.prog) w 9 22 5 (strL [78, 97, 82]) sunder_str sunder_bytes sunder_byte
    have hwz : (strL [78, 97, 82]).size = 3 := rfl
    simp only [hwz] at hcv
    replace hcv : ∀ w, (convert 9 22 (.string ⟨#[78, 97, 82]⟩)).run Tryd.prog w = _ := hcv
    by_cases ha3 : a = 3
    · subst ha3
      have hxt : (⟨#[78, 97, 82]⟩ : ByteArray).extract 0 3 = ⟨#[78, 97, 82]⟩ := by rw [show (⟨#[78, 97, 82]⟩ : ByteArray) = strL [78, 97, 82] from rfl, strL_cut]; rfl
      have hy := fun A c w hr => scan_yes (A := A) (c := c) [78, 97, 82] ⟨2 + 2, false, 0, 0, 0, false⟩ 3 (by decide) (by kernel_rfl) rfl (by decide) w hr
      go_enter Tryd.func5, Tryd.ntmps5
      go_wp2_with fail
      refine (shown_any w hT).mono ?_
      rintro e w1 ⟨rfl, hb⟩
      replace hL := hL.go hb
      clear hb
      go_wp2_with fail
      refine (hy _ _ _ (rd_bytes2 w1 _ [78, 97, 82] _ _)).mono ?_
      rintro e w2 ⟨A2, n2, c2, rfl, hd, hb⟩
      replace hL := hL.go (((((Below.refl _ _).alloc (Nat.le_refl _) _).alloc (by simp) _).drew).trans (hb.mono (by simp; omega)))
      clear hb hd hy
      have hrl := ((hL.go ((Below.refl _ _).alloc (Nat.le_refl _) (.cells #[.int .i64 (2 + 2 : Nat), .bool false, .slice A2 n2 c2, .int .i64 0, .int .i64 0, .bool false] 27))).go (((Below.refl _ _).alloc (Nat.le_refl _) (.cells (bytesRow (strL [78, 97, 82]) (grownCap (w2.alloc (.cells #[.int .i64 (2 + 2 : Nat), .bool false, .slice A2 n2 c2, .int .i64 0, .int .i64 0, .bool false] 27)) 3 0 5)) 5 ((bytesRow (strL [78, 97, 82]) (grownCap (w2.alloc (.cells #[.int .i64 (2 + 2 : Nat), .bool false, .slice A2 n2 c2, .int .i64 0, .int .i64 0, .bool false] 27)) 3 0 5)).size, (bytesRow (strL [78, 97, 82]) (grownCap (w2.alloc (.cells #[.int .i64 (2 + 2 : Nat), .bool false, .slice A2 n2 c2, .int .i64 0, .int .i64 0, .bool false] 27)) 3 0 5)).size + 1))).drew)).get (P := pR A l) (by repeat (first | exact List.mem_cons_self | apply List.mem_cons_of_mem))
      replace hL := hL.go ((Below.refl _ _).alloc (Nat.le_refl _) (.cells #[.int .i64 (2 + 2 : Nat), .bool false, .slice A2 n2 c2, .int .i64 0, .int .i64 0, .bool false] 27))
      go_wp2_with (at_builtin; refine wpList_app rfl _ _ rfl (w2.heap.size + 1) [78, 97, 82] l rfl rfl rfl hn.symm ?own hrl ?hbase ?hsz ?_)
      case own => exact ownB_bytes2 _ _ _ [78, 97, 82] (grownCap_few _ 3 _ (by omega)).1 (grownCap_few _ 3 _ (by omega)).2
      case hbase => simp
      case hsz => simp; omega
      intro g3 c3 w3 how hb
      replace hL := hL.go (below_app2 hb)
      clear hb hrl
      by_cases hl0 : l = []
      · have hn0 : n = 0 := by rw [← hn, hl0]; rfl
        have hy2 := fun A c w hr => scan_yes (A := A) (c := c) ([78, 97, 82] ++ l) ⟨2 + 2, false, 0, 0, 0, false⟩ (n + 3) (by rw [hl0]; decide) (by rw [hl0]; kernel_rfl) (by rw [List.length_append, hn]; simp; omega) (by omega) w hr
        subst hn0
        replace hl0 := Lib.hid hl0
        go_wp2_with fail
        refine (hy2 _ _ _ how.rd).mono ?_
        rintro e w4 ⟨A4, n4, c4, rfl, hd4, hb⟩
        replace hL := (hL.go hb).go ((Below.refl _ _).alloc (Nat.le_refl _) (.cells #[.int .i64 (2 + 2 : Nat), .bool false, .slice A4 n4 c4, .int .i64 0, .int .i64 0, .bool false] 27))
        clear hb how hd4 hy2
        go_wp2
        go_ret
        exact ⟨rfl, hL.below⟩
      · have hwm := word_more 78 97 82 (by decide) l hl0
        have hn0 : ¬ (n : Int) = 0 := fun e => hl0 (List.length_eq_zero_iff.1 (by omega))
        have hn0n : ¬ n = 0 := by omega
        have hy2 := fun A c w hr => scan_no (A := A) (c := c) ([78, 97, 82] ++ l) 3 (n + 3) (by rw [hwm]) (by rw [hwm]) (by rw [List.length_append, hn]; simp; omega) (by omega) w hr
        replace hl0 := Lib.hid hl0
        replace hwm := Lib.hid hwm
        go_wp2_with fail
        refine (hy2 _ _ _ how.rd).mono ?_
        rintro e w4 ⟨rfl, hb⟩
        replace hL := (hL.go hb).go ((Below.refl _ _).alloc (Nat.le_refl _) (.cells #[.int .i64 0, .bool false, .slice none 0 0, .int .i64 0, .int .i64 0, .bool false] 27))
        clear hb how hy2
        go_wp2
        go_ret
        exact ⟨rfl, hL.below⟩
    · have ha2 : a ≤ 2 := by omega
      have hai : (a : Int) < 3 := by omega
      have haj : ¬ (a : Int) = 3 := by omega
      have hno : (textS ([78, 97, 82].take a)).1 = false ∧ (textS ([78, 97, 82].take a)).2 = a ∧ (([78, 97, 82] : List UInt8).take a).length = a := by
        obtain rfl | rfl | rfl : a = 0 ∨ a = 1 ∨ a = 2 := by omega
        all_goals decide
      obtain ⟨L, hLd⟩ : ∃ L, ([78, 97, 82] : List UInt8).take a = L := ⟨_, rfl⟩
      rw [hLd] at hno
      have hxt : (⟨#[78, 97, 82]⟩ : ByteArray).extract 0 a = strL L := by rw [show (⟨#[78, 97, 82]⟩ : ByteArray) = strL [78, 97, 82] from rfl, strL_cut, hLd]
      have hcv2 := fun w => run_bytes_of_string (P := Tryd.prog) w 9 22 5 (strL L) sunder_str sunder_bytes sunder_byte
      have hLz : (strL L).size = a := by rw [strL_size, hno.2.2]
      simp only [hLz] at hcv2
      have hy := fun A c w hr => scan_no (A := A) (c := c) L a a hno.1 hno.2.1 hno.2.2 (by omega) w hr
      replace hno := Lib.hid hno
      replace hLd := Lib.hid hLd
      go_enter Tryd.func5, Tryd.ntmps5
      go_wp2_with fail
      refine (shown_any w hT).mono ?_
      rintro e w1 ⟨rfl, hb⟩
      replace hL := hL.go hb
      clear hb
      go_wp2_with fail
      refine (hy _ _ _ (rd_bytes2 w1 _ L _ _)).mono ?_
      rintro e w2 ⟨rfl, hb⟩
      replace hL := hL.go (((((Below.refl _ _).alloc (Nat.le_refl _) _).alloc (by simp) _).drew).trans (hb.mono (by simp; omega)))
      clear hb hy hcv2
      have hrl := ((hL.go ((Below.refl _ _).alloc (Nat.le_refl _) (.cells #[.int .i64 0, .bool false, .slice none 0 0, .int .i64 0, .int .i64 0, .bool false] 27))).go (((Below.refl _ _).alloc (Nat.le_refl _) (.cells (bytesRow (strL [78, 97, 82]) (grownCap (w2.alloc (.cells #[.int .i64 0, .bool false, .slice none 0 0, .int .i64 0, .int .i64 0, .bool false] 27)) 3 0 5)) 5 ((bytesRow (strL [78, 97, 82]) (grownCap (w2.alloc (.cells #[.int .i64 0, .bool false, .slice none 0 0, .int .i64 0, .int .i64 0, .bool false] 27)) 3 0 5)).size, (bytesRow (strL [78, 97, 82]) (grownCap (w2.alloc (.cells #[.int .i64 0, .bool false, .slice none 0 0, .int .i64 0, .int .i64 0, .bool false] 27)) 3 0 5)).size + 1))).drew)).get (P := pR A l) (by repeat (first | exact List.mem_cons_self | apply List.mem_cons_of_mem))
      replace hL := hL.go ((Below.refl _ _).alloc (Nat.le_refl _) (.cells #[.int .i64 0, .bool false, .slice none 0 0, .int .i64 0, .int .i64 0, .bool false] 27))
      go_wp2_with (at_builtin; refine wpList_app rfl _ _ rfl (w2.heap.size + 1) [78, 97, 82] l rfl rfl rfl hn.symm ?own hrl ?hbase ?hsz ?_)
      case own => exact ownB_bytes2 _ _ _ [78, 97, 82] (grownCap_few _ 3 _ (by omega)).1 (grownCap_few _ 3 _ (by omega)).2
      case hbase => simp
      case hsz => simp; omega
      intro g3 c3 w3 how hb
      replace hL := hL.go (below_app2 hb)
      clear hb hrl
      by_cases hl0 : l = []
      · have hn0 : n = 0 := by rw [← hn, hl0]; rfl
        have hy2 := fun A c w hr => scan_yes (A := A) (c := c) ([78, 97, 82] ++ l) ⟨2 + 2, false, 0, 0, 0, false⟩ (n + 3) (by rw [hl0]; decide) (by rw [hl0]; kernel_rfl) (by rw [List.length_append, hn]; simp; omega) (by omega) w hr
        subst hn0
        replace hl0 := Lib.hid hl0
        go_wp2_with fail
        refine (hy2 _ _ _ how.rd).mono ?_
        rintro e w4 ⟨A4, n4, c4, rfl, hd4, hb⟩
        replace hL := (hL.go hb).go ((Below.refl _ _).alloc (Nat.le_refl _) (.cells #[.int .i64 (2 + 2 : Nat), .bool false, .slice A4 n4 c4, .int .i64 0, .int .i64 0, .bool false] 27))
        clear hb how hd4 hy2
        go_wp2
        go_ret
        exact ⟨rfl, hL.below⟩
      · have hwm := word_more 78 97 82 (by decide) l hl0
        have hn0 : ¬ (n : Int) = 0 := fun e => hl0 (List.length_eq_zero_iff.1 (by omega))
        have hn0n : ¬ n = 0 := by omega
        have hy2 := fun A c w hr => scan_no (A := A) (c := c) ([78, 97, 82] ++ l) 3 (n + 3) (by rw [hwm]) (by rw [hwm]) (by rw [List.length_append, hn]; simp; omega) (by omega) w hr
        replace hl0 := Lib.hid hl0
        replace hwm := Lib.hid hwm
        go_wp2_with fail
        refine (hy2 _ _ _ how.rd).mono ?_
        rintro e w4 ⟨rfl, hb⟩
        replace hL := (hL.go hb).go ((Below.refl _ _).alloc (Nat.le_refl _) (.cells #[.int .i64 0, .bool false, .slice none 0 0, .int .i64 0, .int .i64 0, .bool false] 27))
        clear hb how hy2
        go_wp2
        go_ret
        exact ⟨rfl, hL.below⟩
end Go.Proofs.YtlpcfbilembilaaDoor
