/- The document's Print, walked. Conditions: none. -/
/- The laws PrintTells and PrintFulls, walked. Conditions: the variables that values and words read. -/
import Derived.Test.YtncfbleeidjflaaGreatDoorPz44
import Derived.Test.YtncfbleeidjflaaGreatDoorPz46
import Derived.Test.YtncfbleeidjflaaGreatDoorPz42
namespace Go.Proofs.YtncfbleeidjflaaGreatDoor
open Go.RowKit Go.Cal
set_option maxRecDepth 100000 in
set_option maxHeartbeats 4000000 in
theorem rprint13_no (id p : Int) (full : Bool) (hf : fitsV id p ≠ 0) (w : World) :
    Calls Tryz.prog 10 #[.int .i64 id, .int .u64 p, .bool full] w fun e w' => e = .returned (.tuple #[.string (strL []), .int .i64 (fitsV id p)]) ∧ Below w.heap.size w w' := by
  have hdc := Lib.hid fun w => rdec7_no id p hf w
  obtain ⟨E, hE⟩ : ∃ E, fitsV id p = E := ⟨_, rfl⟩
  rw [hE] at hdc hf ⊢
  have hne : (E != 0) = true := by simpa using hf
  · skip
    go_enter Tryz.func10, Tryz.ntmps10
    go_wp2_with fail
    refine (hdc.out _).mono ?_
    rintro e w1 ⟨rfl, hbd⟩
    have ha1 := (Below.refl w1.heap.size w1).alloc (Nat.le_refl _) (.cells #[.int .i64 0, .bool false, .int .u64 0, .int .i64 0] 46)
    have hB := hbd.trans (ha1.mono hbd.size)
    obtain ⟨p0, p1, p2, p3⟩ := cells4E (pBlk_made w1 #[.int .i64 0, .bool false, .int .u64 0, .int .i64 0] 46)
    have pl := (pBlk_made w1 #[.int .i64 0, .bool false, .int .u64 0, .int .i64 0] 46).lt
    clear ha1 hbd hdc
    go_wp2
    exact bodyPost_ret (v := .tuple #[.string ⟨#[]⟩, .int .i64 E]) (by simp [results, Tryz.results10, go_sem]) rfl ⟨rfl, hB⟩
theorem kind_le {id : Int} (h1 : 1 ≤ id) (h2 : id < 15) : fK id = 1 ↔ id ≤ 4 := by
  rcases id_cases h1 h2 with rfl | rfl | rfl | rfl | rfl | rfl | rfl | rfl | rfl | rfl | rfl | rfl | rfl | rfl <;> decide
set_option maxRecDepth 100000 in
set_option maxHeartbeats 4000000 in
theorem rprint13_wrd {id p : Int} (full : Bool) (h1 : 1 ≤ id) (h2 : id < 15) (hp0 : 0 ≤ p) (hp1 : p < 2 ^ (fW id).toNat) (hc : classV id p = 1 ∨ classV id p = 3 ∨ classV id p = 4) (w : World) :
    Calls Tryz.prog 10 #[.int .i64 id, .int .u64 p, .bool full] w fun e w' => e = .returned (.tuple #[.string (strL (nfT id p)), .int .i64 0]) ∧ Below w.heap.size w w' := by
  have hdc := fun w => rdec7_yes id p h1 h2 hp0 hp1 w
  have hkl := kind_le h1 h2
  have hN4 : classV id p = 4 → decN id p = false := fun h => by unfold decN; rw [if_pos h]
  have hnf : nfT id p = if classV id p = 4 ∧ fK id = 1 then [78, 97, 82] else if decN id p = true then 45 :: wrdT (classV id p) else wrdT (classV id p) := rfl
  generalize nfT id p = T at *
  generalize decN id p = ng at *
  generalize decM id p = mv at *
  generalize decE id p = ev at *
  generalize classV id p = cl at *
  clear hp0 hp1
  rcases hc with rfl | rfl | rfl
  · clear hkl
    cases ng
    · obtain rfl : T = [48] := by rw [hnf, if_neg (by omega), if_neg (by decide)]; rfl
      replace hdc := Lib.hid hdc
      clear hnf hN4
      go_enter Tryz.func10, Tryz.ntmps10
      go_wp2_with fail
      refine (hdc.out _).mono ?_
      rintro e w1 ⟨rfl, hbd⟩
      have ha1 := (Below.refl w1.heap.size w1).alloc (Nat.le_refl _) (.cells #[.int .i64 1, .bool false, .int .u64 (mv : Nat), .int .i64 ev] 46)
      have hB := hbd.trans (ha1.mono hbd.size)
      obtain ⟨p0, p1, p2, p3⟩ := cells4E (pBlk_made w1 #[.int .i64 1, .bool false, .int .u64 (mv : Nat), .int .i64 ev] 46)
      have pl := (pBlk_made w1 #[.int .i64 1, .bool false, .int .u64 (mv : Nat), .int .i64 ev] 46).lt
      clear ha1 hbd hdc
      go_wp2
      exact bodyPost_ret (v := .tuple #[.string (strL [48]), .int .i64 0]) (by simp [results, Tryz.results10, go_sem, strL] <;> rfl) rfl ⟨rfl, hB⟩
    · obtain rfl : T = [45, 48] := by rw [hnf, if_neg (by omega), if_pos rfl]; rfl
      replace hdc := Lib.hid hdc
      clear hnf hN4
      go_enter Tryz.func10, Tryz.ntmps10
      go_wp2_with fail
      refine (hdc.out _).mono ?_
      rintro e w1 ⟨rfl, hbd⟩
      have ha1 := (Below.refl w1.heap.size w1).alloc (Nat.le_refl _) (.cells #[.int .i64 1, .bool true, .int .u64 (mv : Nat), .int .i64 ev] 46)
      have hB := hbd.trans (ha1.mono hbd.size)
      obtain ⟨p0, p1, p2, p3⟩ := cells4E (pBlk_made w1 #[.int .i64 1, .bool true, .int .u64 (mv : Nat), .int .i64 ev] 46)
      have pl := (pBlk_made w1 #[.int .i64 1, .bool true, .int .u64 (mv : Nat), .int .i64 ev] 46).lt
      clear ha1 hbd hdc
      go_wp2
      exact bodyPost_ret (v := .tuple #[.string (strL [45, 48]), .int .i64 0]) (by simp [results, Tryz.results10, go_sem, strL] <;> rfl) rfl ⟨rfl, hB⟩
  · clear hkl
    cases ng
    · obtain rfl : T = [105, 110, 102] := by rw [hnf, if_neg (by omega), if_neg (by decide)]; rfl
      replace hdc := Lib.hid hdc
      clear hnf hN4
      go_enter Tryz.func10, Tryz.ntmps10
      go_wp2_with fail
      refine (hdc.out _).mono ?_
      rintro e w1 ⟨rfl, hbd⟩
      have ha1 := (Below.refl w1.heap.size w1).alloc (Nat.le_refl _) (.cells #[.int .i64 3, .bool false, .int .u64 (mv : Nat), .int .i64 ev] 46)
      have hB := hbd.trans (ha1.mono hbd.size)
      obtain ⟨p0, p1, p2, p3⟩ := cells4E (pBlk_made w1 #[.int .i64 3, .bool false, .int .u64 (mv : Nat), .int .i64 ev] 46)
      have pl := (pBlk_made w1 #[.int .i64 3, .bool false, .int .u64 (mv : Nat), .int .i64 ev] 46).lt
      clear ha1 hbd hdc
      go_wp2
      exact bodyPost_ret (v := .tuple #[.string (strL [105, 110, 102]), .int .i64 0]) (by simp [results, Tryz.results10, go_sem, strL] <;> rfl) rfl ⟨rfl, hB⟩
    · obtain rfl : T = [45, 105, 110, 102] := by rw [hnf, if_neg (by omega), if_pos rfl]; rfl
      replace hdc := Lib.hid hdc
      clear hnf hN4
      go_enter Tryz.func10, Tryz.ntmps10
      go_wp2_with fail
      refine (hdc.out _).mono ?_
      rintro e w1 ⟨rfl, hbd⟩
      have ha1 := (Below.refl w1.heap.size w1).alloc (Nat.le_refl _) (.cells #[.int .i64 3, .bool true, .int .u64 (mv : Nat), .int .i64 ev] 46)
      have hB := hbd.trans (ha1.mono hbd.size)
      obtain ⟨p0, p1, p2, p3⟩ := cells4E (pBlk_made w1 #[.int .i64 3, .bool true, .int .u64 (mv : Nat), .int .i64 ev] 46)
      have pl := (pBlk_made w1 #[.int .i64 3, .bool true, .int .u64 (mv : Nat), .int .i64 ev] 46).lt
      clear ha1 hbd hdc
      go_wp2
      exact bodyPost_ret (v := .tuple #[.string (strL [45, 105, 110, 102]), .int .i64 0]) (by simp [results, Tryz.results10, go_sem, strL] <;> rfl) rfl ⟨rfl, hB⟩
  · obtain rfl : ng = false := hN4 rfl
    by_cases h4 : id ≤ 4
    · obtain rfl : T = [78, 97, 82] := by rw [hnf, if_pos ⟨rfl, hkl.2 h4⟩]
      replace hdc := Lib.hid hdc
      clear hnf hN4
      clear hkl
      go_enter Tryz.func10, Tryz.ntmps10
      go_wp2_with fail
      refine (hdc.out _).mono ?_
      rintro e w1 ⟨rfl, hbd⟩
      have ha1 := (Below.refl w1.heap.size w1).alloc (Nat.le_refl _) (.cells #[.int .i64 4, .bool false, .int .u64 (mv : Nat), .int .i64 ev] 46)
      have hB := hbd.trans (ha1.mono hbd.size)
      obtain ⟨p0, p1, p2, p3⟩ := cells4E (pBlk_made w1 #[.int .i64 4, .bool false, .int .u64 (mv : Nat), .int .i64 ev] 46)
      have pl := (pBlk_made w1 #[.int .i64 4, .bool false, .int .u64 (mv : Nat), .int .i64 ev] 46).lt
      clear ha1 hbd hdc
      go_wp2
      exact bodyPost_ret (v := .tuple #[.string (strL [78, 97, 82]), .int .i64 0]) (by simp [results, Tryz.results10, go_sem, strL] <;> rfl) rfl ⟨rfl, hB⟩
    · obtain rfl : T = [110, 97, 110] := by rw [hnf, if_neg (fun h => h4 (hkl.1 h.2)), if_neg (by decide)]; rfl
      replace hdc := Lib.hid hdc
      clear hnf hN4
      clear hkl
      go_enter Tryz.func10, Tryz.ntmps10
      go_wp2_with fail
      refine (hdc.out _).mono ?_
      rintro e w1 ⟨rfl, hbd⟩
      have ha1 := (Below.refl w1.heap.size w1).alloc (Nat.le_refl _) (.cells #[.int .i64 4, .bool false, .int .u64 (mv : Nat), .int .i64 ev] 46)
      have hB := hbd.trans (ha1.mono hbd.size)
      obtain ⟨p0, p1, p2, p3⟩ := cells4E (pBlk_made w1 #[.int .i64 4, .bool false, .int .u64 (mv : Nat), .int .i64 ev] 46)
      have pl := (pBlk_made w1 #[.int .i64 4, .bool false, .int .u64 (mv : Nat), .int .i64 ev] 46).lt
      clear ha1 hbd hdc
      go_wp2
      exact bodyPost_ret (v := .tuple #[.string (strL [110, 97, 110]), .int .i64 0]) (by simp [results, Tryz.results10, go_sem, strL] <;> rfl) rfl ⟨rfl, hB⟩
set_option maxRecDepth 100000 in
set_option maxHeartbeats 4000000 in
theorem rprint13_fin {id p : Int} {ng : Bool} {K mv : Nat} {ev : Int} (h : Fin id p ng K mv ev) (full : Bool) (w : World) :
    Calls Tryz.prog 10 #[.int .i64 id, .int .u64 p, .bool full] w fun e w' => e = .returned (.tuple #[.string (strL (if full = true then lyT ng (fullV mv ev 2000).1 (fullV mv ev 2000).2 else lyT ng (shortV (limV id ng K) mv ev 2000).1 (shortV (limV id ng K) mv ev 2000).2)), .int .i64 0]) ∧ Below w.heap.size w w' := by
  have hdc := Lib.hid (dec2_of h)
  have hsr := short_right h
  have hfr := full_right h
  have hsh := Lib.hid fun w => rshort11_any h w
  have hfu := Lib.hid fun w => rfull11_any h w
  generalize shortV (limV id ng K) mv ev 2000 = S at *
  generalize fullV mv ev 2000 = T at *
  have hls := Lib.hid fun (W : World) A n c (hv : IsT W (.slice A n c) 2 S.1) => rlayout_any ng S.2 (isT_more9 hv (by decide : 2 ≤ 128))
  have hlf := Lib.hid fun (W : World) A n c (hv : IsT W (.slice A n c) 128 T.1) => rlayout_any ng T.2 hv
  rw [show lyR ng S.1 S.2 = lyT ng S.1 S.2 by unfold lyR; rw [if_pos hsr]] at hls
  rw [show lyR ng T.1 T.2 = lyT ng T.1 T.2 by unfold lyR; rw [if_pos hfr]] at hlf
  generalize lyT ng S.1 S.2 = TS at *
  generalize lyT ng T.1 T.2 = TF at *
  clear h hsr hfr
  cases full
  · go_enter Tryz.func10, Tryz.ntmps10
    go_wp2_with fail
    refine (hdc.out _).mono ?_
    rintro e w1 ⟨rfl, hbd⟩
    have ha1 := (Below.refl w1.heap.size w1).alloc (Nat.le_refl _) (.cells #[.int .i64 2, .bool ng, .int .u64 (mv : Nat), .int .i64 ev] 46)
    have hB := hbd.trans (ha1.mono hbd.size)
    obtain ⟨p0, p1, p2, p3⟩ := cells4E (pBlk_made w1 #[.int .i64 2, .bool ng, .int .u64 (mv : Nat), .int .i64 ev] 46)
    have pl := (pBlk_made w1 #[.int .i64 2, .bool ng, .int .u64 (mv : Nat), .int .i64 ev] 46).lt
    clear ha1 hbd hdc
    cases ng
    all_goals
      go_wp2_with fail
      refine (hsh.out _).mono ?_
      rintro e w2 ⟨A, n, c, rfl, hd, hb2⟩
      have hB2 := hB.trans (hb2.mono hB.size)
      have hly := hls.out _ _ _ _ hd
      clear p0 p1 p2 p3 pl hB hb2 hd
      go_wp2_with fail
      refine hly.mono ?_
      rintro e w3 ⟨rfl, hb3⟩
      have hB3 := hB2.trans (hb3.mono hB2.size)
      go_wp2
      exact bodyPost_ret (v := .tuple #[.string (strL TS), .int .i64 0]) (by simp [results, Tryz.results10, go_sem]) rfl ⟨rfl, hB3⟩
  · go_enter Tryz.func10, Tryz.ntmps10
    go_wp2_with fail
    refine (hdc.out _).mono ?_
    rintro e w1 ⟨rfl, hbd⟩
    have ha1 := (Below.refl w1.heap.size w1).alloc (Nat.le_refl _) (.cells #[.int .i64 2, .bool ng, .int .u64 (mv : Nat), .int .i64 ev] 46)
    have hB := hbd.trans (ha1.mono hbd.size)
    obtain ⟨p0, p1, p2, p3⟩ := cells4E (pBlk_made w1 #[.int .i64 2, .bool ng, .int .u64 (mv : Nat), .int .i64 ev] 46)
    have pl := (pBlk_made w1 #[.int .i64 2, .bool ng, .int .u64 (mv : Nat), .int .i64 ev] 46).lt
    clear ha1 hbd hdc
    cases ng
    all_goals
      go_wp2_with fail
      refine (hfu.out _).mono ?_
      rintro e w2 ⟨A, n, c, rfl, hd, hb2⟩
      have hB2 := hB.trans (hb2.mono hB.size)
      have hly := hlf.out _ _ _ _ hd
      clear p0 p1 p2 p3 pl hB hb2 hd
      go_wp2_with fail
      refine hly.mono ?_
      rintro e w3 ⟨rfl, hb3⟩
      have hB3 := hB2.trans (hb3.mono hB2.size)
      go_wp2
      exact bodyPost_ret (v := .tuple #[.string (strL TF), .int .i64 0]) (by simp [results, Tryz.results10, go_sem]) rfl ⟨rfl, hB3⟩
theorem rprint13_any (id p : Int) (full : Bool) (hp0 : 0 ≤ p) (w : World) :
    Calls Tryz.prog 10 #[.int .i64 id, .int .u64 p, .bool full] w fun e w' => e = .returned (.tuple #[.string (strL (if full = true then fulT id p else priT id p)), .int .i64 (fitsV id p)]) ∧ Below w.heap.size w w' := by
  by_cases hf : fitsV id p = 0
  · obtain ⟨h1, h2, hpw⟩ := fits_two hf
    rw [hf]
    have hc := class_all id p
    by_cases h2c : classV id p = 2
    · have hfin := fin_of h1 h2 hp0 hpw h2c
      have hT : fulT id p = lyT (partN id p) (fulD id p).1 (fulD id p).2 := by unfold fulT; rw [if_neg (by rw [hf]; decide), if_pos h2c]
      have hS : priT id p = lyT (partN id p) (shoD id p).1 (shoD id p).2 := by unfold priT; rw [if_neg (by rw [hf]; decide), if_pos h2c]
      rw [hT, hS]
      exact rprint13_fin hfin full w
    · have hT : fulT id p = nfT id p := by unfold fulT; rw [if_neg (by rw [hf]; decide), if_neg h2c]
      have hS : priT id p = nfT id p := by unfold priT; rw [if_neg (by rw [hf]; decide), if_neg h2c]
      rw [hT, hS, ite_self]
      exact rprint13_wrd full h1 h2 hp0 hpw (by omega) w
  · have hT : fulT id p = [] := by unfold fulT; rw [if_pos hf]
    have hS : priT id p = [] := by unfold priT; rw [if_pos hf]
    rw [hT, hS, ite_self]
    exact rprint13_no id p full hf w
end Go.Proofs.YtncfbleeidjflaaGreatDoor
namespace Go.Proofs.YtncfbleeidjflaaGreatDoor
open Go.RowKit Go.Cal
set_option maxRecDepth 100000 in
set_option maxHeartbeats 2000000 in
theorem printTells_any (id p : Int) (hp0 : 0 ≤ p) (hp1 : p < 18446744073709551616) (w : World) (hW : PrW w) : Calls Tryz.prog 3 #[.int .i64 id, .int .u64 p] w fun e w' => e = .returned (.bool true) ∧ Below w.heap.size w w' := by
  have hpt := fun w hW => print_any id p hp0 hp1 w hW
  have hrp := fun w => rprint13_any id p false hp0 w
  have hrp' : ∀ w, Calls Tryz.prog 10 #[.int .i64 id, .int .u64 p, .bool false] w fun e w' => e = .returned (.tuple #[.string (strL (priT id p)), .int .i64 (fitsV id p)]) ∧ Below w.heap.size w w' := hrp
  clear hrp
  generalize priT id p = T at *
  generalize fitsV id p = E at *
  replace hpt := Lib.hid hpt
  replace hrp' := Lib.hid hrp'
  clear hp0 hp1
  go_enter Tryz.func3, Tryz.ntmps3
  go_wp2_with fail
  refine (rshown_any w hW).mono ?_
  rintro e w1 ⟨rfl, hb1⟩
  go_wp2_with fail
  refine (hpt.out _ (hW.below hb1)).mono ?_
  rintro e w2 ⟨rfl, hb2⟩
  have hB := hb1.trans (hb2.mono hb1.size)
  go_wp2_with fail
  refine (hrp'.out _).mono ?_
  rintro e w3 ⟨rfl, hb3⟩
  have hB3 := hB.trans (hb3.mono hB.size)
  go_wp2
  go_ret
  exact ⟨by first | rfl | simp, hB3⟩
set_option maxRecDepth 100000 in
set_option maxHeartbeats 2000000 in
theorem printFulls_any (id p : Int) (hp0 : 0 ≤ p) (hp1 : p < 18446744073709551616) (w : World) (hW : PrW w) : Calls Tryz.prog 4 #[.int .i64 id, .int .u64 p] w fun e w' => e = .returned (.bool true) ∧ Below w.heap.size w w' := by
  have hpt := fun w hW => pfull_any id p hp0 hp1 w hW
  have hrp := fun w => rprint13_any id p true hp0 w
  have hrp' : ∀ w, Calls Tryz.prog 10 #[.int .i64 id, .int .u64 p, .bool true] w fun e w' => e = .returned (.tuple #[.string (strL (fulT id p)), .int .i64 (fitsV id p)]) ∧ Below w.heap.size w w' := hrp
  clear hrp
  generalize fulT id p = T at *
  generalize fitsV id p = E at *
  replace hpt := Lib.hid hpt
  replace hrp' := Lib.hid hrp'
  clear hp0 hp1
  go_enter Tryz.func4, Tryz.ntmps4
  go_wp2_with fail
  refine (rshown_any w hW).mono ?_
  rintro e w1 ⟨rfl, hb1⟩
  go_wp2_with fail
  refine (hpt.out _ (hW.below hb1)).mono ?_
  rintro e w2 ⟨rfl, hb2⟩
  have hB := hb1.trans (hb2.mono hb1.size)
  go_wp2_with fail
  refine (hrp'.out _).mono ?_
  rintro e w3 ⟨rfl, hb3⟩
  have hB3 := hB.trans (hb3.mono hB.size)
  go_wp2
  go_ret
  exact ⟨by first | rfl | simp, hB3⟩
end Go.Proofs.YtncfbleeidjflaaGreatDoor
