/- What the statement wants beyond its base. Conditions: none. -/
import Derived.Test.YtobokaafmcfeaaaGreatDoorSw01
namespace Go.Proofs.YtobokaafmcfeaaaGreatDoor
open Go.RowKit Go.Cal
section
variable {id op : Int} {p q : Nat} {l : List UInt8} {w : World}
set_option maxRecDepth 100000 in
set_option maxHeartbeats 2000000 in
theorem wr_form (h : id < 1 ∨ 4 < id) (hW : VaW w) : Calls Tryz.prog 29 #[.int .i64 id, .int .i64 op, .int .u64 (p : Nat), .int .u64 (q : Nat), .string (strL l)] w fun e w' => e = .returned (.tuple #[.slice none 0 0, .int .i64 3]) ∧ Below w.heap.size w w' := by
  have hof := Lib.hid (sof_no id h w hW)
  have ho : (op == 1) = true ∨ ((op == 1) = false ∧ (op == 2) = true) ∨ ((op == 1) = false ∧ (op == 2) = false) := by
    cases (op == 1) <;> cases (op == 2) <;> simp
  rcases ho with h1 | ⟨h1, h2⟩ | ⟨h1, h2⟩
  all_goals
    go_enter Tryz.func29, Tryz.ntmps29
    go_wp2_with fail
    refine hof.out.mono ?_
    rintro e w1 ⟨rfl, hb1⟩
    have hB1 := hb1.trans (((Below.refl w1.heap.size w1).alloc (Nat.le_refl _) (.cells #[.int .i64 0, .int .i64 0, .int .i64 0, .int .i64 0, .int .u64 0, .int .u64 0, .int .u64 0] 67)).mono hb1.size)
    go_wp2
    go_ret2
    exact ⟨rfl, hB1⟩
theorem or_nz {p q : Nat} (h : p ≠ 0 ∨ q ≠ 0) (hp : p < 18446744073709551616) (hq : q < 18446744073709551616) : (bits .or .u64 (p : Int) (q : Int) != 0) = true := by
  rw [bits_or_u64_nat p q hp hq]
  have : p ||| q ≠ 0 := fun hz => by
    have h1 := Nat.left_le_or (n := p) (m := q)
    have h2 := Nat.right_le_or (n := p) (m := q)
    omega
  simp
  omega
set_option maxRecDepth 100000 in
set_option maxHeartbeats 4000000 in
theorem wr_bad (h1 : 1 ≤ id) (h4 : id ≤ 4) (hp : p < 18446744073709551616) (hq : q < 18446744073709551616) (hW : VaW w)
    (hbad : op < 0 ∨ 5 < op ∨ (op ≠ 1 ∧ op ≠ 2 ∧ (p ≠ 0 ∨ q ≠ 0)) ∨ (op ≠ 5 ∧ l ≠ []) ∨ 255 < l.length) : Calls Tryz.prog 29 #[.int .i64 id, .int .i64 op, .int .u64 (p : Nat), .int .u64 (q : Nat), .string (strL l)] w fun e w' => e = .returned (.tuple #[.slice none 0 0, .int .i64 1]) ∧ Below w.heap.size w w' := by
  have hsz := strL_size l
  have hli : (strL l).toList = l := by unfold strL; rw [ByteArray.toList_mk]
  have hcase : (op < 0 ∧ (op == 1) = false ∧ (op == 2) = false) ∨ (¬ op < 0 ∧ 5 < op ∧ (op == 1) = false ∧ (op == 2) = false) ∨ ((¬ op < 0 ∧ ¬ 5 < op) ∧
      (((op == 1) = false ∧ (op == 2) = false ∧ (p ≠ 0 ∨ q ≠ 0)) ∨
       ((op == 1) = false ∧ (op == 2) = false ∧ p = 0 ∧ q = 0 ∧ (op != 5) = true ∧ l ≠ []) ∨ (op = 1 ∧ l ≠ []) ∨ (op = 2 ∧ l ≠ []) ∨ (op = 5 ∧ p = 0 ∧ q = 0 ∧ 255 < l.length))) := by
    by_cases a1 : op < 0
    · exact .inl ⟨a1, by simp; omega, by simp; omega⟩
    by_cases a2 : 5 < op
    · exact .inr (.inl ⟨a1, a2, by simp; omega, by simp; omega⟩)
    refine .inr (.inr ⟨⟨a1, a2⟩, ?_⟩)
    by_cases a3 : op ≠ 1 ∧ op ≠ 2 ∧ (p ≠ 0 ∨ q ≠ 0)
    · exact .inl ⟨by simp [a3.1], by simp [a3.2.1], a3.2.2⟩
    right
    by_cases a4 : op ≠ 5 ∧ l ≠ []
    · by_cases b1 : op = 1
      · exact .inr (.inl ⟨b1, a4.2⟩)
      by_cases b2 : op = 2
      · exact .inr (.inr (.inl ⟨b2, a4.2⟩))
      · exact .inl ⟨by simp [b1], by simp [b2], by omega, by omega, by simp [a4.1], a4.2⟩
    · have hl : 255 < l.length := by
        rcases hbad with h | h | h | h | h
        · exact absurd h a1
        · exact absurd h a2
        · exact absurd h a3
        · exact absurd h a4
        · exact h
      have h5 : op = 5 := by
        by_cases h5 : op = 5
        · exact h5
        · exact absurd ⟨h5, by rintro rfl; simp at hl⟩ a4
      exact .inr (.inr (.inr ⟨h5, by omega, by omega, hl⟩))
  clear hbad
  rcases hcase with ⟨a1, a3, a4⟩ | ⟨a1, a2, a3, a4⟩ | ⟨⟨a1, a2⟩, ⟨a3, a4, a5⟩ | ⟨a3, a4, rfl, rfl, a5, a6⟩ | ⟨rfl, a6⟩ | ⟨rfl, a6⟩ | ⟨rfl, rfl, rfl, a6⟩⟩
  · clear hli
    have hof := Lib.hid (sof_yes id h1 h4 w hW)
    go_enter Tryz.func29, Tryz.ntmps29
    go_wp2_with fail
    refine hof.out.mono ?_
    rintro e w1 ⟨rfl, hb1⟩
    have hB1 := hb1.trans (((Below.refl w1.heap.size w1).alloc (Nat.le_refl _) (.cells #[.int .i64 (fK id), .int .i64 (fW id), .int .i64 (fM id), .int .i64 (fB id), .int .u64 (fT id), .int .u64 (fI id), .int .u64 (fN id)] 67)).mono hb1.size)
    clear hof
    go_wp2
    go_ret2
    exact ⟨rfl, hB1⟩
  · clear hli
    have hof := Lib.hid (sof_yes id h1 h4 w hW)
    go_enter Tryz.func29, Tryz.ntmps29
    go_wp2_with fail
    refine hof.out.mono ?_
    rintro e w1 ⟨rfl, hb1⟩
    have hB1 := hb1.trans (((Below.refl w1.heap.size w1).alloc (Nat.le_refl _) (.cells #[.int .i64 (fK id), .int .i64 (fW id), .int .i64 (fM id), .int .i64 (fB id), .int .u64 (fT id), .int .u64 (fI id), .int .u64 (fN id)] 67)).mono hb1.size)
    clear hof
    go_wp2
    go_ret2
    exact ⟨rfl, hB1⟩
  · have a6 := or_nz a5 hp hq
    clear a5 hli
    have hof := Lib.hid (sof_yes id h1 h4 w hW)
    go_enter Tryz.func29, Tryz.ntmps29
    go_wp2_with fail
    refine hof.out.mono ?_
    rintro e w1 ⟨rfl, hb1⟩
    have hB1 := hb1.trans (((Below.refl w1.heap.size w1).alloc (Nat.le_refl _) (.cells #[.int .i64 (fK id), .int .i64 (fW id), .int .i64 (fM id), .int .i64 (fB id), .int .u64 (fT id), .int .u64 (fI id), .int .u64 (fN id)] 67)).mono hb1.size)
    clear hof
    go_wp2
    go_ret2
    exact ⟨rfl, hB1⟩
  · have hle : l.isEmpty = false := by cases l with | nil => exact absurd rfl a6 | cons _ _ => rfl
    have a7 : (bits .or .u64 (((0 : Nat) : Int)) (((0 : Nat) : Int)) != 0) = false := by decide
    clear a6
    have hof := Lib.hid (sof_yes id h1 h4 w hW)
    go_enter Tryz.func29, Tryz.ntmps29
    go_wp2_with fail
    refine hof.out.mono ?_
    rintro e w1 ⟨rfl, hb1⟩
    have hB1 := hb1.trans (((Below.refl w1.heap.size w1).alloc (Nat.le_refl _) (.cells #[.int .i64 (fK id), .int .i64 (fW id), .int .i64 (fM id), .int .i64 (fB id), .int .u64 (fT id), .int .u64 (fI id), .int .u64 (fN id)] 67)).mono hb1.size)
    clear hof
    go_wp2
    go_ret2
    exact ⟨rfl, hB1⟩
  · have hle : l.isEmpty = false := by cases l with | nil => exact absurd rfl a6 | cons _ _ => rfl
    clear a6
    have hof := Lib.hid (sof_yes id h1 h4 w hW)
    go_enter Tryz.func29, Tryz.ntmps29
    go_wp2_with fail
    refine hof.out.mono ?_
    rintro e w1 ⟨rfl, hb1⟩
    have hB1 := hb1.trans (((Below.refl w1.heap.size w1).alloc (Nat.le_refl _) (.cells #[.int .i64 (fK id), .int .i64 (fW id), .int .i64 (fM id), .int .i64 (fB id), .int .u64 (fT id), .int .u64 (fI id), .int .u64 (fN id)] 67)).mono hb1.size)
    clear hof
    go_wp2
    go_ret2
    exact ⟨rfl, hB1⟩
  · have hle : l.isEmpty = false := by cases l with | nil => exact absurd rfl a6 | cons _ _ => rfl
    clear a6
    have hof := Lib.hid (sof_yes id h1 h4 w hW)
    go_enter Tryz.func29, Tryz.ntmps29
    go_wp2_with fail
    refine hof.out.mono ?_
    rintro e w1 ⟨rfl, hb1⟩
    have hB1 := hb1.trans (((Below.refl w1.heap.size w1).alloc (Nat.le_refl _) (.cells #[.int .i64 (fK id), .int .i64 (fW id), .int .i64 (fM id), .int .i64 (fB id), .int .u64 (fT id), .int .u64 (fI id), .int .u64 (fN id)] 67)).mono hb1.size)
    clear hof
    go_wp2
    go_ret2
    exact ⟨rfl, hB1⟩
  · have a7 : (bits .or .u64 (((0 : Nat) : Int)) (((0 : Nat) : Int)) != 0) = false := by decide
    have a8 : (255 : Int) < (l.length : Int) := by omega
    have hof := Lib.hid (sof_yes id h1 h4 w hW)
    go_enter Tryz.func29, Tryz.ntmps29
    go_wp2_with fail
    refine hof.out.mono ?_
    rintro e w1 ⟨rfl, hb1⟩
    have hB1 := hb1.trans (((Below.refl w1.heap.size w1).alloc (Nat.le_refl _) (.cells #[.int .i64 (fK id), .int .i64 (fW id), .int .i64 (fM id), .int .i64 (fB id), .int .u64 (fT id), .int .u64 (fI id), .int .u64 (fN id)] 67)).mono hb1.size)
    clear hof
    go_wp2
    go_ret2
    exact ⟨rfl, hB1⟩
theorem fits_n {p : Nat} (h1 : 1 ≤ id) (h4 : id ≤ 4) (hp64 : p < 18446744073709551616) (hp : ¬ p < 2 ^ (fW id).toNat) (W : World) (hW : VaW W) : Calls Tryz.prog 91 #[.int .i64 id, .int .u64 (p : Nat)] W fun e w' => e = .returned (.int .i64 1) ∧ Below W.heap.size W w' := by
  have hf : fitsV id (p : Int) = 1 := by
    unfold fitsV
    rw [if_neg (by omega), if_neg (by exact_mod_cast hp)]
  have h := fo_fits id (p : Int) W hW.frm (by omega) (by omega)
  rw [hf] at h
  exact h
theorem pos_full {id : Int} (h1 : 1 ≤ id) (h4 : id ≤ 4) : 256 ^ ((fW id).toNat / 8) = 2 ^ (fW id).toNat := by
  have : id = 1 ∨ id = 2 ∨ id = 3 ∨ id = 4 := by omega
  rcases this with rfl | rfl | rfl | rfl <;> decide +kernel
set_option maxRecDepth 100000 in
set_option maxHeartbeats 4000000 in
theorem wr_wide1 (h1 : 1 ≤ id) (h4 : id ≤ 4) (hop : op = 1) (hl : l = []) (hp : p < 18446744073709551616) (hq : q < 18446744073709551616) (hW : VaW w) (hbad : 2 ^ (fW id).toNat ≤ p ∨ 2 ^ (fW id).toNat ≤ q) : Calls Tryz.prog 29 #[.int .i64 id, .int .i64 op, .int .u64 (p : Nat), .int .u64 (q : Nat), .string (strL l)] w fun e w' => e = .returned (.tuple #[.slice none 0 0, .int .i64 1]) ∧ Below w.heap.size w w' := by
  subst hop; subst hl
  rw [show strL [] = (⟨#[]⟩ : ByteArray) from rfl]
  have hof := Lib.hid (sof_yes id h1 h4 w hW)
  by_cases hpw : p < 2 ^ (fW id).toNat
  · have hfp := Lib.hid fun (W : World) (hW : VaW W) => fits_y h1 h4 (by rw [pos_full h1 h4]; exact hpw) W hW
    have hfq := Lib.hid fun (W : World) (hW : VaW W) => fits_n (p := q) h1 h4 hq (by omega) W hW
    clear hbad hpw
    go_enter Tryz.func29, Tryz.ntmps29
    go_wp2_with fail
    refine hof.out.mono ?_
    rintro e w1 ⟨rfl, hb1⟩
    have hB1 := hb1.trans (((Below.refl w1.heap.size w1).alloc (Nat.le_refl _) (.cells #[.int .i64 (fK id), .int .i64 (fW id), .int .i64 (fM id), .int .i64 (fB id), .int .u64 (fT id), .int .u64 (fI id), .int .u64 (fN id)] 67)).mono hb1.size)
    clear hof
    go_wp2_with fail
    refine (hfp.out _ (hW.below hB1)).mono ?_
    rintro e w2 ⟨rfl, hb2⟩
    have hB2 := hB1.trans (hb2.mono hB1.size)
    go_wp2_with fail
    refine (hfq.out _ (hW.below hB2)).mono ?_
    rintro e w3 ⟨rfl, hb3⟩
    have hB3 := hB2.trans (hb3.mono hB2.size)
    go_wp2
    go_ret2
    exact ⟨rfl, hB3⟩
  · have hfp := Lib.hid fun (W : World) (hW : VaW W) => fits_n (p := p) h1 h4 hp hpw W hW
    clear hbad hpw
    go_enter Tryz.func29, Tryz.ntmps29
    go_wp2_with fail
    refine hof.out.mono ?_
    rintro e w1 ⟨rfl, hb1⟩
    have hB1 := hb1.trans (((Below.refl w1.heap.size w1).alloc (Nat.le_refl _) (.cells #[.int .i64 (fK id), .int .i64 (fW id), .int .i64 (fM id), .int .i64 (fB id), .int .u64 (fT id), .int .u64 (fI id), .int .u64 (fN id)] 67)).mono hb1.size)
    clear hof
    go_wp2_with fail
    refine (hfp.out _ (hW.below hB1)).mono ?_
    rintro e w2 ⟨rfl, hb2⟩
    have hB2 := hB1.trans (hb2.mono hB1.size)
    go_wp2
    go_ret2
    exact ⟨rfl, hB2⟩
set_option maxRecDepth 100000 in
set_option maxHeartbeats 4000000 in
theorem wr_wide2 (h1 : 1 ≤ id) (h4 : id ≤ 4) (hop : op = 2) (hl : l = []) (hp : p < 18446744073709551616) (hq : q < 18446744073709551616) (hW : VaW w) (hbad : 2 ^ (fW id).toNat ≤ p ∨ 2 ^ (fW id).toNat ≤ q) : Calls Tryz.prog 29 #[.int .i64 id, .int .i64 op, .int .u64 (p : Nat), .int .u64 (q : Nat), .string (strL l)] w fun e w' => e = .returned (.tuple #[.slice none 0 0, .int .i64 1]) ∧ Below w.heap.size w w' := by
  subst hop; subst hl
  rw [show strL [] = (⟨#[]⟩ : ByteArray) from rfl]
  have hof := Lib.hid (sof_yes id h1 h4 w hW)
  by_cases hpw : p < 2 ^ (fW id).toNat
  · have hfp := Lib.hid fun (W : World) (hW : VaW W) => fits_y h1 h4 (by rw [pos_full h1 h4]; exact hpw) W hW
    have hfq := Lib.hid fun (W : World) (hW : VaW W) => fits_n (p := q) h1 h4 hq (by omega) W hW
    clear hbad hpw
    go_enter Tryz.func29, Tryz.ntmps29
    go_wp2_with fail
    refine hof.out.mono ?_
    rintro e w1 ⟨rfl, hb1⟩
    have hB1 := hb1.trans (((Below.refl w1.heap.size w1).alloc (Nat.le_refl _) (.cells #[.int .i64 (fK id), .int .i64 (fW id), .int .i64 (fM id), .int .i64 (fB id), .int .u64 (fT id), .int .u64 (fI id), .int .u64 (fN id)] 67)).mono hb1.size)
    clear hof
    go_wp2_with fail
    refine (hfp.out _ (hW.below hB1)).mono ?_
    rintro e w2 ⟨rfl, hb2⟩
    have hB2 := hB1.trans (hb2.mono hB1.size)
    go_wp2_with fail
    refine (hfq.out _ (hW.below hB2)).mono ?_
    rintro e w3 ⟨rfl, hb3⟩
    have hB3 := hB2.trans (hb3.mono hB2.size)
    go_wp2
    go_ret2
    exact ⟨rfl, hB3⟩
  · have hfp := Lib.hid fun (W : World) (hW : VaW W) => fits_n (p := p) h1 h4 hp hpw W hW
    clear hbad hpw
    go_enter Tryz.func29, Tryz.ntmps29
    go_wp2_with fail
    refine hof.out.mono ?_
    rintro e w1 ⟨rfl, hb1⟩
    have hB1 := hb1.trans (((Below.refl w1.heap.size w1).alloc (Nat.le_refl _) (.cells #[.int .i64 (fK id), .int .i64 (fW id), .int .i64 (fM id), .int .i64 (fB id), .int .u64 (fT id), .int .u64 (fI id), .int .u64 (fN id)] 67)).mono hb1.size)
    clear hof
    go_wp2_with fail
    refine (hfp.out _ (hW.below hB1)).mono ?_
    rintro e w2 ⟨rfl, hb2⟩
    have hB2 := hB1.trans (hb2.mono hB1.size)
    go_wp2
    go_ret2
    exact ⟨rfl, hB2⟩
set_option maxRecDepth 100000 in
set_option maxHeartbeats 4000000 in
theorem wr_load (h1 : 1 ≤ id) (h4 : id ≤ 4) (hl : l.length ≤ 255) (hW : VaW w) : Calls Tryz.prog 29 #[.int .i64 id, .int .i64 5, .int .u64 0, .int .u64 0, .string (strL l)] w fun e w' =>
    ∃ A c, e = .returned (.tuple #[.slice A (5 :: UInt8.ofNat l.length :: l).length c, .int .i64 0]) ∧ RdB w' w'.heap.size A (5 :: UInt8.ofNat l.length :: l) ∧ Below w.heap.size w w' := by
  have hof := Lib.hid (sof_yes id h1 h4 w hW)
  have hft := Lib.hid fun (W : World) (hW : VaW W) => fits_y (p := 0) h1 h4 (Nat.pow_pos (by decide)) W hW
  obtain ⟨n, hn⟩ : ∃ n, l.length = n := ⟨_, rfl⟩
  have hsz := strL_size l
  rw [hn] at hl hsz
  have hli : ¬ (255 : Int) < (n : Int) := by omega
  have hlj : ¬ 255 < n := by omega
  have hlk : decide (255 < n) = false := decide_eq_false hlj
  have hll : decide ((255 : Int) < (n : Int)) = false := decide_eq_false hli
  obtain ⟨b, hb⟩ : ∃ b, UInt8.ofNat n = b := ⟨_, rfl⟩
  have hbn : b.toNat = n := by rw [← hb]; simp; omega
  have hwr : IntKind.u8.wrap (n : Int) = (n : Int) := by simp [IntKind.wrap, IntKind.bits, IntKind.signed]; omega
  have ha7 : bits .or .u64 0 0 = 0 := by decide
  have ha8 : (bits .or .u64 0 0 != 0) = false := by decide
  rw [hn, hb]
  go_enter Tryz.func29, Tryz.ntmps29
  go_wp2_with fail
  refine hof.out.mono ?_
  rintro e w1 ⟨rfl, hb1⟩
  have hB1 := hb1.trans (((Below.refl w1.heap.size w1).alloc (Nat.le_refl _) (.cells #[.int .i64 (fK id), .int .i64 (fW id), .int .i64 (fM id), .int .i64 (fB id), .int .u64 (fT id), .int .u64 (fI id), .int .u64 (fN id)] 67)).mono hb1.size)
  clear hof
  go_wp2_with fail
  refine (hft.out _ (hW.below hB1)).mono ?_
  rintro e w2 ⟨rfl, hb2⟩
  have hB2 := hB1.trans (hb2.mono hB1.size)
  go_wp2_with fail
  refine (hft.out _ (hW.below hB2)).mono ?_
  rintro e w3 ⟨rfl, hb3⟩
  have hB3 := hB2.trans (hb3.mono hB2.size)
  have hal := (((Below.refl w3.heap.size w3).alloc (Nat.le_refl _) (.cells #[.int .u8 5] 5))).alloc (by simp) (.cells #[.int .u8 (n : Int)] 5)
  have ho5 := (ownB_lit w3 w3.heap.size [5] 0 0 #[.int .u8 5] rfl (Nat.le_refl _) (by decide) (.inr rfl)).alloc (.cells #[.int .u8 (n : Int)] 5)
  have hrb := (ownB_lit2 w3 (.cells #[.int .u8 5] 5) [b] #[.int .u8 (n : Int)] (by simp [lBv, hbn]) (by unfold maxLen; simp)).rd
  clear hft hb1 hb2 hb3 hB1 hB2
  go_wp2_with (at_builtin; first
    | (refine wpList_app rfl _ _ rfl w3.heap.size [5] [b] rfl rfl rfl rfl ho5 hrb (by simp; omega) (by simp) ?_; intro g4 c4 w4 how4 hb4)
    | (refine wpList_app_str rfl _ _ rfl w3.heap.size ([5] ++ [b]) l rfl rfl rfl how4 (Nat.le_trans (by simp; omega) hb4.size) (by simp; omega) ?_; intro g5 c5 w5 how5 hb5))
  have hB5 := (hB3.trans ((hal.trans hb4).mono hB3.size)).trans (hb5.mono hB3.size)
  go_ret2
  exact ⟨some ⟨g5, 0, none⟩, c5, by simp [hn], how5.rd, hB5⟩
end
end Go.Proofs.YtobokaafmcfeaaaGreatDoor
namespace Go.Proofs.YtobokaafmcfeaaaGreatDoor
open Go.RowKit Go.Cal
theorem byte_conv (w : World) (c : UInt8) (v : Value) (hv : v = .int .u8 (c.toNat : Nat)) (s : Nat) (hs : w.heap.size = s) : (convert 42 9 (.slice (some ⟨s, 0, none⟩) 1 1)).run Tryz.prog (w.alloc (.cells #[v] 5)) = .ok (.string (strL [c])) (w.alloc (.cells #[v] 5)) := by
  subst hv; subst hs
  exact conv_bytes (l := [c]) 1 (ownB_lit w w.heap.size [c] 0 0 #[.int .u8 (c.toNat : Nat)] rfl (Nat.le_refl _) (by unfold maxLen; simp) (.inr rfl)).rd
theorem by_next (p j : Nat) : p / 256 ^ j / 256 = p / 256 ^ (j + 1) := by rw [Nat.div_div_eq_div_mul, Nat.pow_succ]
set_option maxRecDepth 100000 in
set_option maxHeartbeats 2000000 in
theorem rbytes_any (W p : Nat) (k : Nat) (hk : W / 8 = k) (hW : W ≤ 64) (hp : p < 18446744073709551616) (w : World) : Calls Tryz.prog 93 #[.int .i64 (W : Nat), .int .u64 (p : Nat)] w fun e w' => e = .returned (.string (strL (beB k p))) ∧ Below w.heap.size w w' := by
  have hki : (W : Int) / 8 = (k : Int) := by omega
  have hk8 : k ≤ 8 := by omega
  go_enter Tryz.func93, Tryz.ntmps93
  go_wp2_with fail
  go_loopg [1, 5, 6] k (fun g kv sv iv wr => ∃ j : Nat, kv = .int .u64 ((p / 256 ^ j : Nat) : Int) ∧ sv = .string (strL (beB j p)) ∧ iv = .int .i64 (j : Nat) ∧ j + g = k ∧ Below w.heap.size w wr)
  case atStart => exact ⟨0, by simp, rfl, rfl, by omega, Below.refl _ _⟩
  case round =>
    obtain ⟨j, rfl, rfl, rfl, hjg, hB⟩ := hrel
    by_cases hj : j < k
    · obtain ⟨x, hx⟩ : ∃ x, p / 256 ^ j = x := ⟨_, rfl⟩
      have hx2 : p / 256 ^ (j + 1) = x / 256 := by rw [← hx, by_next]
      have hxb : x < 18446744073709551616 := by rw [← hx]; exact Nat.lt_of_le_of_lt (Nat.div_le_self _ _) hp
      obtain ⟨b, hb⟩ : ∃ b, x % 256 = b := ⟨_, rfl⟩
      have hb2 : b < 256 := by omega
      obtain ⟨c, hc⟩ : ∃ c, UInt8.ofNat b = c := ⟨_, rfl⟩
      have hcn : (c.toNat : Int) = (b : Int) := by rw [← hc]; simp; omega
      have hS : beB (j + 1) p = c :: beB j p := by rw [beB, hx, hb, hc]
      have hcat : strL [c] ++ strL (beB j p) = strL (beB (j + 1) p) := by rw [hS]; exact strL_app [c] _
      have hbi : (x : Int) % 256 = (b : Int) := by omega
      have hz1 : (strL [c]).size = 1 := strL_size _
      have hz2 : (strL (beB j p)).size = j := by rw [strL_size, beB_len]
      have hz3 : ¬ 9223372036854775807 < 1 + j := by omega
      have hw8 : IntKind.u8.wrap (b : Int) = (b : Int) := by simp [IntKind.wrap, IntKind.bits, IntKind.signed]; omega
      have hcv := byte_conv wr c (.int .u8 (b : Int)) (by rw [← hcn]) _ rfl
      have hB2 := hB.trans (((Below.refl wr.heap.size wr).alloc (Nat.le_refl _) (.cells #[.int .u8 (b : Int)] 5)).mono hB.size)
      rw [hx]
      have hl : (j : Int) < (k : Int) := by omega
      replace hS := Lib.hid hS
      clear hc
      go_wp2_with fail
      go_roundg (gk - 1)
      case measure => omega
      case rel => exact ⟨j + 1, by rw [hx2]; simp, rfl, by simp, by omega, hB2⟩
    · have hjk : j = k := by omega
      subst hjk
      have hl : ¬ (j : Int) < (j : Int) := by omega
      go_wp2
      go_ret
      exact ⟨rfl, hB⟩
section
variable {id op : Int} {p q : Nat} {l : List UInt8} {w : World}
theorem kind_pos (h : id < 1 ∨ 4 < id) : (fK id != 1) = true := by
  unfold fK
  split <;> first | omega | rfl
set_option maxRecDepth 100000 in
set_option maxHeartbeats 2000000 in
theorem rwr_form (h : id < 1 ∨ 4 < id) : Calls Tryz.prog 30 #[.int .i64 id, .int .i64 op, .int .u64 (p : Nat), .int .u64 (q : Nat), .string (strL l)] w fun e w' => e = .returned (.tuple #[.string ⟨#[]⟩, .int .i64 3]) ∧ Below w.heap.size w w' := by
  by_cases h15 : id < 1 ∨ 15 ≤ id
  · have hof := Lib.hid (rof_no id w h15)
    go_enter Tryz.func30, Tryz.ntmps30
    go_wp2_with fail
    refine hof.out.mono ?_
    rintro e w1 ⟨rfl, hb1⟩
    have hB1 := hb1.trans (((Below.refl w1.heap.size w1).alloc (Nat.le_refl _) (.cells #[.int .i64 0, .int .i64 0, .int .i64 0, .int .i64 0, .int .u64 0, .int .u64 0, .int .u64 0] 103)).mono hb1.size)
    go_wp2
    go_ret2
    exact ⟨rfl, hB1⟩
  · have hof := Lib.hid (rof_yes id w (by omega) (by omega))
    have hk := kind_pos h
    have hk2 : ¬ fK id = 1 := by simpa using hk
    go_enter Tryz.func30, Tryz.ntmps30
    go_wp2_with fail
    refine hof.out.mono ?_
    rintro e w1 ⟨rfl, hb1⟩
    have hB1 := hb1.trans (((Below.refl w1.heap.size w1).alloc (Nat.le_refl _) (.cells #[.int .i64 (fK id), .int .i64 (fW id), .int .i64 (fM id), .int .i64 (fB id), .int .u64 (fT id), .int .u64 (fI id), .int .u64 (fN id)] 103)).mono hb1.size)
    go_wp2
    go_ret2
    exact ⟨rfl, hB1⟩
set_option maxRecDepth 100000 in
set_option maxHeartbeats 4000000 in
theorem rwr_bad (h1 : 1 ≤ id) (h4 : id ≤ 4)
    (hbad : op < 0 ∨ 5 < op ∨ (op ≠ 1 ∧ op ≠ 2 ∧ (p ≠ 0 ∨ q ≠ 0)) ∨ (op ≠ 5 ∧ l ≠ []) ∨ 255 < l.length) : Calls Tryz.prog 30 #[.int .i64 id, .int .i64 op, .int .u64 (p : Nat), .int .u64 (q : Nat), .string (strL l)] w fun e w' => e = .returned (.tuple #[.string ⟨#[]⟩, .int .i64 1]) ∧ Below w.heap.size w w' := by
  have hsz := strL_size l
  have hli : (strL l).toList = l := by unfold strL; rw [ByteArray.toList_mk]
  have hcase : (op < 0) ∨ (¬ op < 0 ∧ 5 < op) ∨ ((¬ op < 0 ∧ ¬ 5 < op) ∧
      (((op != 1) = true ∧ (op != 2) = true ∧ ((p : Int) != 0) = true) ∨ ((op != 1) = true ∧ (op != 2) = true ∧ ((p : Int) != 0) = false ∧ ((q : Int) != 0) = true) ∨
       ((op != 1) = true ∧ (op != 2) = true ∧ p = 0 ∧ q = 0 ∧ (op != 5) = true ∧ l ≠ []) ∨ (op = 1 ∧ l ≠ []) ∨ (op = 2 ∧ l ≠ []) ∨ (op = 5 ∧ p = 0 ∧ q = 0 ∧ 255 < l.length))) := by
    by_cases a1 : op < 0
    · exact .inl a1
    by_cases a2 : 5 < op
    · exact .inr (.inl ⟨a1, a2⟩)
    refine .inr (.inr ⟨⟨a1, a2⟩, ?_⟩)
    by_cases a3 : op ≠ 1 ∧ op ≠ 2 ∧ (p ≠ 0 ∨ q ≠ 0)
    · by_cases hp0 : p = 0
      · exact .inr (.inl ⟨by simp [a3.1], by simp [a3.2.1], by simp [hp0], by simp; omega⟩)
      · exact .inl ⟨by simp [a3.1], by simp [a3.2.1], by simp; omega⟩
    right; right
    by_cases a4 : op ≠ 5 ∧ l ≠ []
    · by_cases b1 : op = 1
      · exact .inr (.inl ⟨b1, a4.2⟩)
      by_cases b2 : op = 2
      · exact .inr (.inr (.inl ⟨b2, a4.2⟩))
      · exact .inl ⟨by simp [b1], by simp [b2], by omega, by omega, by simp [a4.1], a4.2⟩
    · have hl : 255 < l.length := by
        rcases hbad with h | h | h | h | h
        · exact absurd h a1
        · exact absurd h a2
        · exact absurd h a3
        · exact absurd h a4
        · exact h
      have h5 : op = 5 := by
        by_cases h5 : op = 5
        · exact h5
        · exact absurd ⟨h5, by rintro rfl; simp at hl⟩ a4
      exact .inr (.inr (.inr ⟨h5, by omega, by omega, hl⟩))
  clear hbad
  rcases hcase with a1 | ⟨a1, a2⟩ | ⟨⟨a1, a2⟩, ⟨a3, a4, a5⟩ | ⟨a3, a4, a5, a6⟩ | ⟨a3, a4, rfl, rfl, a5, a6⟩ | ⟨rfl, a6⟩ | ⟨rfl, a6⟩ | ⟨rfl, rfl, rfl, a6⟩⟩
  · clear hli
    have hof := Lib.hid (rof_yes id w h1 (by omega))
    have hk := posit_kind h1 h4
    rw [hk] at hof
    go_enter Tryz.func30, Tryz.ntmps30
    go_wp2_with fail
    refine hof.out.mono ?_
    rintro e w1 ⟨rfl, hb1⟩
    have hB1 := fun cs => hb1.trans (((Below.refl w1.heap.size w1).alloc (Nat.le_refl _) (.cells cs 103)).mono hb1.size)
    clear hof
    go_wp2
    go_ret2
    exact ⟨rfl, hB1 _⟩
  · clear hli
    have hof := Lib.hid (rof_yes id w h1 (by omega))
    have hk := posit_kind h1 h4
    rw [hk] at hof
    go_enter Tryz.func30, Tryz.ntmps30
    go_wp2_with fail
    refine hof.out.mono ?_
    rintro e w1 ⟨rfl, hb1⟩
    have hB1 := fun cs => hb1.trans (((Below.refl w1.heap.size w1).alloc (Nat.le_refl _) (.cells cs 103)).mono hb1.size)
    clear hof
    go_wp2
    go_ret2
    exact ⟨rfl, hB1 _⟩
  · clear hli
    have hof := Lib.hid (rof_yes id w h1 (by omega))
    have hk := posit_kind h1 h4
    rw [hk] at hof
    go_enter Tryz.func30, Tryz.ntmps30
    go_wp2_with fail
    refine hof.out.mono ?_
    rintro e w1 ⟨rfl, hb1⟩
    have hB1 := fun cs => hb1.trans (((Below.refl w1.heap.size w1).alloc (Nat.le_refl _) (.cells cs 103)).mono hb1.size)
    clear hof
    go_wp2
    go_ret2
    exact ⟨rfl, hB1 _⟩
  · clear hli
    have hof := Lib.hid (rof_yes id w h1 (by omega))
    have hk := posit_kind h1 h4
    rw [hk] at hof
    go_enter Tryz.func30, Tryz.ntmps30
    go_wp2_with fail
    refine hof.out.mono ?_
    rintro e w1 ⟨rfl, hb1⟩
    have hB1 := fun cs => hb1.trans (((Below.refl w1.heap.size w1).alloc (Nat.le_refl _) (.cells cs 103)).mono hb1.size)
    clear hof
    go_wp2
    go_ret2
    exact ⟨rfl, hB1 _⟩
  · have hle : l.isEmpty = false := by cases l with | nil => exact absurd rfl a6 | cons _ _ => rfl
    clear a6
    have hof := Lib.hid (rof_yes id w h1 (by omega))
    have hk := posit_kind h1 h4
    rw [hk] at hof
    go_enter Tryz.func30, Tryz.ntmps30
    go_wp2_with fail
    refine hof.out.mono ?_
    rintro e w1 ⟨rfl, hb1⟩
    have hB1 := fun cs => hb1.trans (((Below.refl w1.heap.size w1).alloc (Nat.le_refl _) (.cells cs 103)).mono hb1.size)
    clear hof
    go_wp2
    go_ret2
    exact ⟨rfl, hB1 _⟩
  · have hle : l.isEmpty = false := by cases l with | nil => exact absurd rfl a6 | cons _ _ => rfl
    clear a6
    have hof := Lib.hid (rof_yes id w h1 (by omega))
    have hk := posit_kind h1 h4
    rw [hk] at hof
    go_enter Tryz.func30, Tryz.ntmps30
    go_wp2_with fail
    refine hof.out.mono ?_
    rintro e w1 ⟨rfl, hb1⟩
    have hB1 := fun cs => hb1.trans (((Below.refl w1.heap.size w1).alloc (Nat.le_refl _) (.cells cs 103)).mono hb1.size)
    clear hof
    go_wp2
    go_ret2
    exact ⟨rfl, hB1 _⟩
  · have hle : l.isEmpty = false := by cases l with | nil => exact absurd rfl a6 | cons _ _ => rfl
    clear a6
    have hof := Lib.hid (rof_yes id w h1 (by omega))
    have hk := posit_kind h1 h4
    rw [hk] at hof
    go_enter Tryz.func30, Tryz.ntmps30
    go_wp2_with fail
    refine hof.out.mono ?_
    rintro e w1 ⟨rfl, hb1⟩
    have hB1 := fun cs => hb1.trans (((Below.refl w1.heap.size w1).alloc (Nat.le_refl _) (.cells cs 103)).mono hb1.size)
    clear hof
    go_wp2
    go_ret2
    exact ⟨rfl, hB1 _⟩
  · have a8 : (255 : Int) < (l.length : Int) := by omega
    have hof := Lib.hid (rof_yes id w h1 (by omega))
    have hk := posit_kind h1 h4
    rw [hk] at hof
    go_enter Tryz.func30, Tryz.ntmps30
    go_wp2_with fail
    refine hof.out.mono ?_
    rintro e w1 ⟨rfl, hb1⟩
    have hB1 := fun cs => hb1.trans (((Below.refl w1.heap.size w1).alloc (Nat.le_refl _) (.cells cs 103)).mono hb1.size)
    clear hof
    go_wp2
    go_ret2
    exact ⟨rfl, hB1 _⟩
set_option maxRecDepth 100000 in
set_option maxHeartbeats 4000000 in
theorem rwr_wide1 (h1 : 1 ≤ id) (h4 : id ≤ 4) (hop : op = 1) (hl : l = []) (hbad : 2 ^ (fW id).toNat ≤ p ∨ 2 ^ (fW id).toNat ≤ q) : Calls Tryz.prog 30 #[.int .i64 id, .int .i64 op, .int .u64 (p : Nat), .int .u64 (q : Nat), .string (strL l)] w fun e w' => e = .returned (.tuple #[.string ⟨#[]⟩, .int .i64 1]) ∧ Below w.heap.size w w' := by
  subst hop; subst hl
  rw [show strL [] = (⟨#[]⟩ : ByteArray) from rfl]
  have hof := Lib.hid (rof_yes id w h1 (by omega))
  have hk := posit_kind h1 h4
  have hft := ft_bounds id
  have hms := fun k wi ma bi tp nf na h0 h1 w => Lib.hid (rmask_any k wi ma bi tp nf na w h0 h1)
  obtain ⟨M, hM⟩ : ∃ M : Nat, 2 ^ (fW id).toNat = M + 1 := ⟨2 ^ (fW id).toNat - 1, by have := Nat.two_pow_pos (fW id).toNat; omega⟩
  have hMi : (2 : Int) ^ (fW id).toNat - 1 = (M : Int) := by
    have : ((2 ^ (fW id).toNat : Nat) : Int) = ((M + 1 : Nat) : Int) := by rw [hM]
    push_cast at this
    omega
  have hmk := fun w => Lib.hid (rmask_any 1 (fW id) (fM id) (fB id) (fT id) (fI id) (fN id) w hft.1 hft.2.1)
  rw [hMi] at hmk
  rw [hk] at hof
  rw [hM] at hbad
  clear hM hMi hft hms hk
  have hcase : ((M : Int) < (p : Int)) ∨ (¬ (M : Int) < (p : Int) ∧ (M : Int) < (q : Int)) := by omega
  clear hbad
  rcases hcase with a1 | ⟨a1, a2⟩
  all_goals
    go_enter Tryz.func30, Tryz.ntmps30
    go_wp2_with fail
    refine hof.out.mono ?_
    rintro e w1 ⟨rfl, hb1⟩
    have pF := pBlk_made w1 #[.int .i64 1, .int .i64 (fW id), .int .i64 (fM id), .int .i64 (fB id), .int .u64 (fT id), .int .u64 (fI id), .int .u64 (fN id)] 103
    have hB1 := hb1.trans (((Below.refl w1.heap.size w1).alloc (Nat.le_refl _) (.cells #[.int .i64 1, .int .i64 (fW id), .int .i64 (fM id), .int .i64 (fB id), .int .u64 (fT id), .int .u64 (fI id), .int .u64 (fN id)] 103)).mono hb1.size)
    clear hof
    go_wp2_with fail
    refine (hmk _).out.mono ?_
    rintro e w2 ⟨rfl, hb2⟩
    have hB2 := hB1.trans (hb2.mono hB1.size)
    have pF2 := pBlk_st _ _ _ _ _ pF hb2
    obtain ⟨q0, q1, q2, q3, q4, q5, q6⟩ := cells7F pF2
    have ql := pF2.lt
    try
      go_wp2
      go_ret2
      exact ⟨rfl, hB2⟩
  go_wp2_with fail
  refine (hmk _).out.mono ?_
  rintro e w3 ⟨rfl, hb3⟩
  have hB3 := hB2.trans (hb3.mono hB2.size)
  go_wp2
  go_ret2
  exact ⟨rfl, hB3⟩
set_option maxRecDepth 100000 in
set_option maxHeartbeats 4000000 in
theorem rwr_wide2 (h1 : 1 ≤ id) (h4 : id ≤ 4) (hop : op = 2) (hl : l = []) (hbad : 2 ^ (fW id).toNat ≤ p ∨ 2 ^ (fW id).toNat ≤ q) : Calls Tryz.prog 30 #[.int .i64 id, .int .i64 op, .int .u64 (p : Nat), .int .u64 (q : Nat), .string (strL l)] w fun e w' => e = .returned (.tuple #[.string ⟨#[]⟩, .int .i64 1]) ∧ Below w.heap.size w w' := by
  subst hop; subst hl
  rw [show strL [] = (⟨#[]⟩ : ByteArray) from rfl]
  have hof := Lib.hid (rof_yes id w h1 (by omega))
  have hk := posit_kind h1 h4
  have hft := ft_bounds id
  have hms := fun k wi ma bi tp nf na h0 h1 w => Lib.hid (rmask_any k wi ma bi tp nf na w h0 h1)
  obtain ⟨M, hM⟩ : ∃ M : Nat, 2 ^ (fW id).toNat = M + 1 := ⟨2 ^ (fW id).toNat - 1, by have := Nat.two_pow_pos (fW id).toNat; omega⟩
  have hMi : (2 : Int) ^ (fW id).toNat - 1 = (M : Int) := by
    have : ((2 ^ (fW id).toNat : Nat) : Int) = ((M + 1 : Nat) : Int) := by rw [hM]
    push_cast at this
    omega
  have hmk := fun w => Lib.hid (rmask_any 1 (fW id) (fM id) (fB id) (fT id) (fI id) (fN id) w hft.1 hft.2.1)
  rw [hMi] at hmk
  rw [hk] at hof
  rw [hM] at hbad
  clear hM hMi hft hms hk
  have hcase : ((M : Int) < (p : Int)) ∨ (¬ (M : Int) < (p : Int) ∧ (M : Int) < (q : Int)) := by omega
  clear hbad
  rcases hcase with a1 | ⟨a1, a2⟩
  all_goals
    go_enter Tryz.func30, Tryz.ntmps30
    go_wp2_with fail
    refine hof.out.mono ?_
    rintro e w1 ⟨rfl, hb1⟩
    have pF := pBlk_made w1 #[.int .i64 1, .int .i64 (fW id), .int .i64 (fM id), .int .i64 (fB id), .int .u64 (fT id), .int .u64 (fI id), .int .u64 (fN id)] 103
    have hB1 := hb1.trans (((Below.refl w1.heap.size w1).alloc (Nat.le_refl _) (.cells #[.int .i64 1, .int .i64 (fW id), .int .i64 (fM id), .int .i64 (fB id), .int .u64 (fT id), .int .u64 (fI id), .int .u64 (fN id)] 103)).mono hb1.size)
    clear hof
    go_wp2_with fail
    refine (hmk _).out.mono ?_
    rintro e w2 ⟨rfl, hb2⟩
    have hB2 := hB1.trans (hb2.mono hB1.size)
    have pF2 := pBlk_st _ _ _ _ _ pF hb2
    obtain ⟨q0, q1, q2, q3, q4, q5, q6⟩ := cells7F pF2
    have ql := pF2.lt
    try
      go_wp2
      go_ret2
      exact ⟨rfl, hB2⟩
  go_wp2_with fail
  refine (hmk _).out.mono ?_
  rintro e w3 ⟨rfl, hb3⟩
  have hB3 := hB2.trans (hb3.mono hB2.size)
  go_wp2
  go_ret2
  exact ⟨rfl, hB3⟩
set_option maxRecDepth 100000 in
set_option maxHeartbeats 4000000 in
theorem rwr_clear (h1 : 1 ≤ id) (h4 : id ≤ 4) : Calls Tryz.prog 30 #[.int .i64 id, .int .i64 0, .int .u64 0, .int .u64 0, .string ⟨#[]⟩] w fun e w' => e = .returned (.tuple #[.string (strL (wrB id 0 0 0)), .int .i64 0]) ∧ Below w.heap.size w w' := by
  have hof := Lib.hid (rof_yes id w h1 (by omega))
  have hk := posit_kind h1 h4
  have hft := ft_bounds id
  obtain ⟨M, hM⟩ : ∃ M : Nat, 2 ^ (fW id).toNat = M + 1 := ⟨2 ^ (fW id).toNat - 1, by have := Nat.two_pow_pos (fW id).toNat; omega⟩
  have hMi : (2 : Int) ^ (fW id).toNat - 1 = (M : Int) := by
    have : ((2 ^ (fW id).toNat : Nat) : Int) = ((M + 1 : Nat) : Int) := by rw [hM]
    push_cast at this
    omega
  have hmk := fun w => Lib.hid (rmask_any 1 (fW id) (fM id) (fB id) (fT id) (fI id) (fN id) w hft.1 hft.2.1)
  rw [hMi] at hmk
  rw [hk] at hof
  have hM0 : ¬ (M : Int) < 0 := by omega
  clear hM hMi hft hk
  go_enter Tryz.func30, Tryz.ntmps30
  go_wp2_with fail
  refine hof.out.mono ?_
  rintro e w1 ⟨rfl, hb1⟩
  have pF := pBlk_made w1 #[.int .i64 1, .int .i64 (fW id), .int .i64 (fM id), .int .i64 (fB id), .int .u64 (fT id), .int .u64 (fI id), .int .u64 (fN id)] 103
  have hB1 := hb1.trans (((Below.refl w1.heap.size w1).alloc (Nat.le_refl _) (.cells #[.int .i64 1, .int .i64 (fW id), .int .i64 (fM id), .int .i64 (fB id), .int .u64 (fT id), .int .u64 (fI id), .int .u64 (fN id)] 103)).mono hb1.size)
  clear hof hb1
  go_wp2_with fail
  refine (hmk _).out.mono ?_
  rintro e w2 ⟨rfl, hb2⟩
  have hB2 := hB1.trans (hb2.mono hB1.size)
  have pF2 := pBlk_st _ _ _ _ _ pF hb2
  obtain ⟨q0, q1, q2, q3, q4, q5, q6⟩ := cells7F pF2
  have ql := pF2.lt
  clear pF hb2 hB1
  go_wp2_with fail
  refine (hmk _).out.mono ?_
  rintro e w3 ⟨rfl, hb3⟩
  have hB3 := hB2.trans (hb3.mono hB2.size)
  have pF3 := pBlk_st _ _ _ _ _ pF2 hb3
  clear q0 q1 q2 q3 q4 q5 q6 ql hB2 hb3 pF2 hmk
  have ql := pF3.lt
  have hcv := byte_conv w3 0 (.int .u8 0) rfl _ rfl
  have hB4 := hB3.trans (((Below.refl w3.heap.size w3).alloc (Nat.le_refl _) (.cells #[.int .u8 0] 5)).mono hB3.size)
  go_wp2
  go_ret2
  exact ⟨rfl, hB4⟩
set_option maxRecDepth 100000 in
set_option maxHeartbeats 4000000 in
theorem rwr_neg (h1 : 1 ≤ id) (h4 : id ≤ 4) : Calls Tryz.prog 30 #[.int .i64 id, .int .i64 3, .int .u64 0, .int .u64 0, .string ⟨#[]⟩] w fun e w' => e = .returned (.tuple #[.string (strL (wrB id 3 0 0)), .int .i64 0]) ∧ Below w.heap.size w w' := by
  have hof := Lib.hid (rof_yes id w h1 (by omega))
  have hk := posit_kind h1 h4
  have hft := ft_bounds id
  obtain ⟨M, hM⟩ : ∃ M : Nat, 2 ^ (fW id).toNat = M + 1 := ⟨2 ^ (fW id).toNat - 1, by have := Nat.two_pow_pos (fW id).toNat; omega⟩
  have hMi : (2 : Int) ^ (fW id).toNat - 1 = (M : Int) := by
    have : ((2 ^ (fW id).toNat : Nat) : Int) = ((M + 1 : Nat) : Int) := by rw [hM]
    push_cast at this
    omega
  have hmk := fun w => Lib.hid (rmask_any 1 (fW id) (fM id) (fB id) (fT id) (fI id) (fN id) w hft.1 hft.2.1)
  rw [hMi] at hmk
  rw [hk] at hof
  have hM0 : ¬ (M : Int) < 0 := by omega
  clear hM hMi hft hk
  go_enter Tryz.func30, Tryz.ntmps30
  go_wp2_with fail
  refine hof.out.mono ?_
  rintro e w1 ⟨rfl, hb1⟩
  have pF := pBlk_made w1 #[.int .i64 1, .int .i64 (fW id), .int .i64 (fM id), .int .i64 (fB id), .int .u64 (fT id), .int .u64 (fI id), .int .u64 (fN id)] 103
  have hB1 := hb1.trans (((Below.refl w1.heap.size w1).alloc (Nat.le_refl _) (.cells #[.int .i64 1, .int .i64 (fW id), .int .i64 (fM id), .int .i64 (fB id), .int .u64 (fT id), .int .u64 (fI id), .int .u64 (fN id)] 103)).mono hb1.size)
  clear hof hb1
  go_wp2_with fail
  refine (hmk _).out.mono ?_
  rintro e w2 ⟨rfl, hb2⟩
  have hB2 := hB1.trans (hb2.mono hB1.size)
  have pF2 := pBlk_st _ _ _ _ _ pF hb2
  obtain ⟨q0, q1, q2, q3, q4, q5, q6⟩ := cells7F pF2
  have ql := pF2.lt
  clear pF hb2 hB1
  go_wp2_with fail
  refine (hmk _).out.mono ?_
  rintro e w3 ⟨rfl, hb3⟩
  have hB3 := hB2.trans (hb3.mono hB2.size)
  have pF3 := pBlk_st _ _ _ _ _ pF2 hb3
  clear q0 q1 q2 q3 q4 q5 q6 ql hB2 hb3 pF2 hmk
  have ql := pF3.lt
  have hcv := byte_conv w3 3 (.int .u8 3) rfl _ rfl
  have hB4 := hB3.trans (((Below.refl w3.heap.size w3).alloc (Nat.le_refl _) (.cells #[.int .u8 3] 5)).mono hB3.size)
  go_wp2
  go_ret2
  exact ⟨rfl, hB4⟩
set_option maxRecDepth 100000 in
set_option maxHeartbeats 4000000 in
theorem rwr_out (h1 : 1 ≤ id) (h4 : id ≤ 4) : Calls Tryz.prog 30 #[.int .i64 id, .int .i64 4, .int .u64 0, .int .u64 0, .string ⟨#[]⟩] w fun e w' => e = .returned (.tuple #[.string (strL (wrB id 4 0 0)), .int .i64 0]) ∧ Below w.heap.size w w' := by
  have hof := Lib.hid (rof_yes id w h1 (by omega))
  have hk := posit_kind h1 h4
  have hft := ft_bounds id
  obtain ⟨M, hM⟩ : ∃ M : Nat, 2 ^ (fW id).toNat = M + 1 := ⟨2 ^ (fW id).toNat - 1, by have := Nat.two_pow_pos (fW id).toNat; omega⟩
  have hMi : (2 : Int) ^ (fW id).toNat - 1 = (M : Int) := by
    have : ((2 ^ (fW id).toNat : Nat) : Int) = ((M + 1 : Nat) : Int) := by rw [hM]
    push_cast at this
    omega
  have hmk := fun w => Lib.hid (rmask_any 1 (fW id) (fM id) (fB id) (fT id) (fI id) (fN id) w hft.1 hft.2.1)
  rw [hMi] at hmk
  rw [hk] at hof
  have hM0 : ¬ (M : Int) < 0 := by omega
  clear hM hMi hft hk
  go_enter Tryz.func30, Tryz.ntmps30
  go_wp2_with fail
  refine hof.out.mono ?_
  rintro e w1 ⟨rfl, hb1⟩
  have pF := pBlk_made w1 #[.int .i64 1, .int .i64 (fW id), .int .i64 (fM id), .int .i64 (fB id), .int .u64 (fT id), .int .u64 (fI id), .int .u64 (fN id)] 103
  have hB1 := hb1.trans (((Below.refl w1.heap.size w1).alloc (Nat.le_refl _) (.cells #[.int .i64 1, .int .i64 (fW id), .int .i64 (fM id), .int .i64 (fB id), .int .u64 (fT id), .int .u64 (fI id), .int .u64 (fN id)] 103)).mono hb1.size)
  clear hof hb1
  go_wp2_with fail
  refine (hmk _).out.mono ?_
  rintro e w2 ⟨rfl, hb2⟩
  have hB2 := hB1.trans (hb2.mono hB1.size)
  have pF2 := pBlk_st _ _ _ _ _ pF hb2
  obtain ⟨q0, q1, q2, q3, q4, q5, q6⟩ := cells7F pF2
  have ql := pF2.lt
  clear pF hb2 hB1
  go_wp2_with fail
  refine (hmk _).out.mono ?_
  rintro e w3 ⟨rfl, hb3⟩
  have hB3 := hB2.trans (hb3.mono hB2.size)
  have pF3 := pBlk_st _ _ _ _ _ pF2 hb3
  clear q0 q1 q2 q3 q4 q5 q6 ql hB2 hb3 pF2 hmk
  have ql := pF3.lt
  have hcv := byte_conv w3 4 (.int .u8 4) rfl _ rfl
  have hB4 := hB3.trans (((Below.refl w3.heap.size w3).alloc (Nat.le_refl _) (.cells #[.int .u8 4] 5)).mono hB3.size)
  go_wp2
  go_ret2
  exact ⟨rfl, hB4⟩
end
end Go.Proofs.YtobokaafmcfeaaaGreatDoor
