/- Exact numbers without twos and fives: Reduced, walked whole. Conditions: none. -/
/- The quire: what it tells, walked. Conditions: none. -/
/- A pattern in another form: trans, walked. Conditions: the variables that values read. -/
import Derived.Test.YtobokaafmcfeaaaGreatDoorSk27
import Derived.Deep.LoopGhost
import Derived.LoopN
import Derived.Test.YtobokaafmcfeaaaGreatDoorSk24
import Derived.Test.YtobokaafmcfeaaaGreatDoorSk25
import Derived.Test.YtobokaafmcfeaaaGreatDoorSk26
import Derived.Test.YtobokaafmcfeaaaGreatDoorSk04
import Derived.Test.YtobokaafmcfeaaaGreatDoorSk02
namespace Go.Proofs.YtobokaafmcfeaaaGreatDoor
open Go.RowKit Go.Cal
theorem odd_part : ∀ (k N : Nat), 0 < N → N < 2 ^ k → ∃ a Y, N = Y * 2 ^ a ∧ Y % 2 = 1 ∧ a < k
  | 0, N, h0, h => by simp at h; omega
  | k + 1, N, h0, h => by
    by_cases h2 : N % 2 = 1
    · exact ⟨0, N, by simp, h2, by omega⟩
    · obtain ⟨a, Y, e, o, l⟩ := odd_part k (N / 2) (by omega) (by rw [Nat.pow_succ] at h; omega)
      refine ⟨a + 1, Y, ?_, o, by omega⟩
      rw [Nat.pow_succ, ← Nat.mul_assoc, ← e]
      omega
theorem odd_bits {Y a i : Nat} (o : Y % 2 = 1) (h : i ≤ a) : (Y * 2 ^ a).testBit i = decide (i = a) := by
  rw [Nat.testBit_eq_decide_div_mod_eq]
  obtain ⟨d, rfl⟩ : ∃ d, a = i + d := ⟨a - i, by omega⟩
  rw [show Y * 2 ^ (i + d) = Y * 2 ^ d * 2 ^ i by rw [Nat.pow_add]; ac_rfl, Nat.mul_div_cancel _ (Nat.two_pow_pos i)]
  rcases Nat.eq_zero_or_pos d with h0 | h0
  · subst h0; simp [o]
  · obtain ⟨e, rfl⟩ : ∃ e, d = e + 1 := ⟨d - 1, by omega⟩
    rw [Nat.pow_succ, ← Nat.mul_assoc, Nat.mul_mod_left]
    simp
theorem bit_t {w : World} {v : Value} {k X : Nat} (h : IsT w v k X) (i : Nat) (hi : i ≤ 9223372036854775807) :
    Calls Tryz.prog 238 #[v, .int .i64 (i : Nat)] w fun e w' => e = .returned (.bool (X.testBit i)) ∧ w = w' := by
  obtain ⟨A1, c1, z1, rfl, r1, hc1, hl1, d1, nr⟩ := h
  have := bit_any c1 i hi w r1 nr.dig
  rwa [nr.val] at this
theorem div_five {X Y b k : Nat} (h : Hid (Y = X * 5 ^ b)) (hz : X % 5 ^ k = 0) : Hid (Y = X / 5 ^ k * 5 ^ (b + k)) := by
  have e := Nat.div_mul_cancel (Nat.dvd_of_mod_eq_zero hz)
  have h1 : Y = X * 5 ^ b := h
  show Y = X / 5 ^ k * 5 ^ (b + k)
  rw [h1, Nat.pow_add, Nat.mul_comm (5 ^ b), ← Nat.mul_assoc, e]
theorem div_pos5 {X k : Nat} (h : 0 < X) (hz : X % 5 ^ k = 0) : 0 < X / 5 ^ k := Nat.div_pos (Nat.le_of_dvd h (Nat.dvd_of_mod_eq_zero hz)) (Nat.pow_pos (by decide))
theorem shr_x {w : World} {v : Value} {X : Nat} (h : IsT w v 128 X) (i Y : Nat) (hi : i ≤ 131072) (hY : X / 2 ^ i = Y) :
    Calls Tryz.prog 239 #[v, .int .i64 (i : Nat)] w fun e w' => ∃ A n c, e = .returned (.slice A n c) ∧ IsT w' (.slice A n c) 128 Y ∧ Below w.heap.size w w' :=
  (shr_t (i : Nat) Y h.isN (by decide) (by rw [show (min (max (i : Int) 0) 131072).toNat = i by omega]; exact hY)).mono fun e w' ⟨v', he, hv', hb⟩ => by
    obtain ⟨A, c, zs, rfl, -⟩ := id hv'
    exact ⟨A, _, c, he, hv', hb⟩
theorem odd_left {Y X z : Nat} (h : Y = X * z) (ho : Y % 2 = 1) : X % 2 = 1 := by
  rw [h, Nat.mul_mod] at ho
  rcases Nat.mod_two_eq_zero_or_one X with h1 | h1
  · rw [h1] at ho; simp at ho
  · exact h1
set_option maxRecDepth 100000 in
set_option maxHeartbeats 4000000 in
/-- A number of as many twos and fives, and the rest of them beside. -/
theorem red_full {w : World} {A : Option Addr} {n c N : Nat} (neg : Bool) (t f : Int) (h : IsT w (.slice A n c) 128 N) (h0 : 0 < N) (ht : -20000 ≤ t ∧ t ≤ 20000) (hf : -20000 ≤ f ∧ f ≤ 20000) :
    Calls Tryz.prog 185 #[.agg #[.bool neg, .slice A n c, .int .i64 t, .int .i64 f]] w fun e w' => ∃ (Y a b : Nat) (A' : Option Addr) (n' c' : Nat), e = .returned (.agg #[.bool neg, .slice A' n' c', .int .i64 (t + a), .int .i64 (f + b)]) ∧ N = Y * 2 ^ a * 5 ^ b ∧ (Y % 2 = 1 ∧ Y % 5 ≠ 0) ∧ IsT w' (.slice A' n' c') 128 Y ∧ Below w.heap.size w w' := by
  have hN8 : N < 2 ^ 8192 := by
    have := h.isN.lt
    have e : (18446744073709551616 : Nat) ^ 128 = 2 ^ 8192 := by decide +kernel
    rw [← e]; exact this
  obtain ⟨a, Y, hN, hodd, ha⟩ := odd_part 8192 N h0 hN8
  have hb0 : Below w.heap.size w ((w.alloc (.cells #[.bool neg, .slice A n c, .int .i64 t, .int .i64 f] 101)).alloc (.cells #[.bool false, .slice none 0 0, .int .i64 0, .int .i64 0] 101)) := ((Below.refl _ _).alloc (Nat.le_refl _) _).alloc (by simp) _
  have hL := (((((LiveP.start w).go ((Below.refl w.heap.size w).alloc (Nat.le_refl _) (.cells #[.bool neg, .slice A n c, .int .i64 t, .int .i64 f] 101))).put (pBlk_st _ _ _) (pBlk_made w #[.bool neg, .slice A n c, .int .i64 t, .int .i64 f] 101)).go ((Below.refl _ _).alloc (Nat.le_refl _) (.cells #[.bool false, .slice none 0 0, .int .i64 0, .int .i64 0] 101))).put (pBlk_st _ _ _) (pBlk_madeR (w.alloc (.cells #[.bool neg, .slice A n c, .int .i64 t, .int .i64 f] 101)) #[.bool false, .slice none 0 0, .int .i64 0, .int .i64 0] 101 (w.heap.size + 1) (by simp))).put (pT_st (.slice A n c) 128 N) (h.below hb0)
  obtain ⟨y, hy⟩ : ∃ y, blen N = y := ⟨_, rfl⟩
  have hy0 : ((y : Int) == 0) = false := by
    have := (blen_bnd h0).1
    rw [hy] at this
    rcases Nat.eq_zero_or_pos y with h1 | h1
    · rw [h1] at this; omega
    · simp; omega
  obtain ⟨a0, a1, a2, a3⟩ := cells4R (hL.get (P := pBlk w.heap.size #[.bool neg, .slice A n c, .int .i64 t, .int .i64 f] 101) (by repeat (first | exact List.mem_cons_self | apply List.mem_cons_of_mem)))
  go_enter Tryz.func185, Tryz.ntmps185
  go_wp2_with fail
  have hbt := bits_b (hL.get (P := pT (.slice A n c) 128 N) (by repeat (first | exact List.mem_cons_self | apply List.mem_cons_of_mem)))
  rw [hy] at hbt
  refine hbt.mono ?_
  rintro e w1 ⟨rfl, hb⟩
  have hL1 := hL.go hb
  clear hb hbt a0 a1 a2 a3
  obtain ⟨a0, a1, a2, a3⟩ := cells4R (hL1.get (P := pBlk w.heap.size #[.bool neg, .slice A n c, .int .i64 t, .int .i64 f] 101) (by repeat (first | exact List.mem_cons_self | apply List.mem_cons_of_mem)))
  go_wp2_with fail
  refine (norm_t (IsT.isN (hL1.get (P := pT (.slice A n c) 128 N) (by repeat (first | exact List.mem_cons_self | apply List.mem_cons_of_mem)))) (by decide)).mono ?_
  rintro e w2 ⟨v2, rfl, hv2, hb⟩
  obtain ⟨A2, c2, z2, rfl, -⟩ := id hv2
  obtain ⟨n2, hn2⟩ : ∃ n, z2.length = n := ⟨_, rfl⟩
  rw [hn2] at hv2 ⊢
  clear hn2
  have hL2 := (hL1.go hb).put (pT_st (.slice A2 n2 c2) 128 N) hv2
  clear hb hv2 a0 a1 a2 a3
  go_wp2_with fail
  have hL3 := (hL2.go ((Below.refl _ _).alloc (Nat.le_refl _) (.cells #[.slice A2 n2 c2] 33))).put (pBlk_st _ _ _) (pBlk_made w2 #[.slice A2 n2 c2] 33)
  obtain ⟨W0, hW0⟩ : ∃ W0, w2.alloc (.cells #[.slice A2 n2 c2] 33) = W0 := ⟨_, rfl⟩
  have hg1 : w.heap.size + 1 < w2.heap.size := (hL2.get (P := pBlk (w.heap.size + 1) #[.bool false, .slice none 0 0, .int .i64 0, .int .i64 0] 101) (by repeat (first | exact List.mem_cons_self | apply List.mem_cons_of_mem))).lt
  rw [hW0] at hL3 ⊢
  obtain ⟨h, hh⟩ : ∃ h, w2.heap.size = h := ⟨_, rfl⟩
  obtain ⟨g, hg⟩ : ∃ g, w.heap.size = g := ⟨_, rfl⟩
  rw [hh] at hL3 ⊢ hg1
  rw [hg] at hL3 ⊢ hg1
  have hv := hL3.get (P := pT (.slice A2 n2 c2) 128 N) (by repeat (first | exact List.mem_cons_self | apply List.mem_cons_of_mem))
  have pg := hL3.get (P := pBlk g #[.bool neg, .slice A n c, .int .i64 t, .int .i64 f] 101) (by repeat (first | exact List.mem_cons_self | apply List.mem_cons_of_mem))
  have ph := hL3.get (P := pBlk h #[.slice A2 n2 c2] 33) (by repeat (first | exact List.mem_cons_self | apply List.mem_cons_of_mem))
  have pr := hL3.get (P := pBlk (g + 1) #[.bool false, .slice none 0 0, .int .i64 0, .int .i64 0] 101) (by repeat (first | exact List.mem_cons_self | apply List.mem_cons_of_mem))
  have hB3 := hL3.below
  replace hN8 := Lib.hid hN8
  clear hW0 hb0 hL hL1 hL2 hL3 hh hy0 hy
  have hg0 : g = w.heap.size := hg.symm
  replace hg0 := Lib.hid hg0
  have ch := ph.cell 0 _ rfl
  obtain ⟨a0, a1, a2, a3⟩ := cells4R pg
  have hbit := Lib.hid fun (i : Nat) (hi : i ≤ a) => bit_t hv i (by omega)
  have hob : Hid (∀ (i : Nat), i ≤ a → N.testBit i = decide (i = a)) := fun i hi => by rw [hN]; exact odd_bits hodd hi
  have hYb : Hid (∀ X b : Nat, Y = X * 5 ^ b → 0 < X → b ≤ 8192) := fun X b hX hX0 => by
    have h1 : 2 ^ b ≤ N := by
      calc 2 ^ b ≤ 5 ^ b := Nat.pow_le_pow_left (by decide) _
        _ ≤ X * 5 ^ b := Nat.le_mul_of_pos_left _ hX0
        _ = Y := hX.symm
        _ ≤ Y * 2 ^ a := Nat.le_mul_of_pos_right _ (Nat.two_pow_pos _)
        _ = N := hN.symm
    have h2 := (Nat.pow_lt_pow_iff_right (a := 2) (by decide)).1 (Nat.lt_of_le_of_lt h1 hN8.out)
    omega
  replace hN := Lib.hid hN
  have hY0 : 0 < Y := by omega
  replace hodd := Lib.hid hodd
  go_loopg [4] a (fun k p wr => ∃ low : Nat, p = .int .i64 (low : Nat) ∧ low + k = a ∧ wr = W0)
  case atStart => exact ⟨0, rfl, by omega, rfl⟩
  case round =>
    obtain ⟨low, rfl, hk, rfl⟩ := hrel
    have hbt := hbit.out low (by omega)
    rw [hob.out low (by omega)] at hbt
    rcases Nat.lt_or_ge low a with hl | hl
    case inr =>
      obtain rfl : low = a := by omega
      rw [decide_eq_true rfl] at hbt
      replace hbt := Lib.hid hbt
      go_wp2_with fail
      refine hbt.out.mono ?_
      rintro e w3 ⟨rfl, rfl⟩
      have hsh := Lib.hid fun (W : World) (hb : Below wr.heap.size wr W) => shr_x (hv.below hb) low Y (by omega) (by rw [hN.out, Nat.mul_div_cancel _ (Nat.two_pow_pos low)])
      have fh := ph.free 0
      have fg := pg.free 2
      have hht := ph.lt
      have hgt := pg.lt
      have hwt : IntKind.i64.wrap (t + (low : Int)) = t + low := by rw [IntKind.wrap_i64]; omega
      replace hwt := Lib.hid hwt
      have ne1 : ¬ h = g := by omega
      have ne2 : ¬ g = h := by omega
      clear hbt hbit hob
      go_wp2_with fail
      go_region_law (first | (go_simp; go_at_call 239; refine Calls.mono (hsh.out _ (Below.refl _ _).drew) ?_; rintro e w4 ⟨A4, n4, c4, rfl, hv4, hb4⟩; have x0 := (hb4.cell (p := ⟨h, 0, none⟩) hht).trans ch; have x2 := (hb4.cell (p := ⟨g, 2, none⟩) hgt).trans a2; have y0 := (hb4.frozen (p := ⟨h, 0, none⟩) hht).trans fh; have y2 := (hb4.frozen (p := ⟨g, 2, none⟩) hgt).trans fg; have z0 : h < w4.heap.size := Nat.lt_of_lt_of_le hht hb4.size; have z2 : g < w4.heap.size := Nat.lt_of_lt_of_le hgt hb4.size) | fail)
      all_goals
        rw [hwt.out]
        have pg5 : pBlk g #[.bool neg, .slice A n c, .int .i64 (t + low), .int .i64 f] 101 ((w4.setCell ⟨h, 0, none⟩ (.slice A4 n4 c4)).setCell ⟨g, 2, none⟩ (.int .i64 (t + low))) := ((pBlk_st _ _ _ _ _ pg ((Below.refl wr.heap.size wr).drew.trans hb4)).othR ne2 _ _).setX 2 _
        have ph5 : pBlk h #[.slice A4 n4 c4] 33 ((w4.setCell ⟨h, 0, none⟩ (.slice A4 n4 c4)).setCell ⟨g, 2, none⟩ (.int .i64 (t + low))) := ((pBlk_st _ _ _ _ _ ph ((Below.refl wr.heap.size wr).drew.trans hb4)).setX 0 (.slice A4 n4 c4)).othR ne1 _ _
        have hB45 : Below g w w4 := (hB3.mono (Nat.le_of_eq hg0.out)).trans (((Below.refl wr.heap.size wr).drew.trans hb4).mono (by omega))
        have hv5 := IsT.apartX (i := 2) (u := .int .i64 (t + low)) (IsT.apartX (i := 0) (u := .slice A4 n4 c4) hv4 (pBlk_st _ _ _ _ _ ph ((Below.refl wr.heap.size wr).drew.trans hb4)) (fun x hx n => by simp at hx; subst hx; simp))
          ((pBlk_st _ _ _ _ _ pg ((Below.refl wr.heap.size wr).drew.trans hb4)).othR ne2 0 (.slice A4 n4 c4)) (fun x hx n => by simp at hx; rcases hx with rfl | rfl | rfl | rfl <;> simp)
        have pr5 : pBlk (g + 1) #[.bool false, .slice none 0 0, .int .i64 0, .int .i64 0] 101 ((w4.setCell ⟨h, 0, none⟩ (.slice A4 n4 c4)).setCell ⟨g, 2, none⟩ (.int .i64 (t + low))) := ((pBlk_st _ _ _ _ _ pr ((Below.refl wr.heap.size wr).drew.trans hb4)).othR (show g + 1 ≠ h by omega) _ _).othR (show g + 1 ≠ g by omega) _ _
        have hB5 : Below g w ((w4.setCell ⟨h, 0, none⟩ (.slice A4 n4 c4)).setCell ⟨g, 2, none⟩ (.int .i64 (t + low))) := (hB45.setCell (show g ≤ h by omega) _).setCell (Nat.le_refl _) _
        have hR5 : RedS g g h neg (.slice A n c) (t + low) f Y ((w4.setCell ⟨h, 0, none⟩ (.slice A4 n4 c4)).setCell ⟨g, 2, none⟩ (.int .i64 (t + low))) := ⟨Nat.le_refl _, by omega, ne2, A4, n4, c4, pg5, ph5, hv5⟩
        obtain ⟨W5, hW5⟩ : ∃ W5, (w4.setCell ⟨h, 0, none⟩ (.slice A4 n4 c4)).setCell ⟨g, 2, none⟩ (.int .i64 (t + low)) = W5 := ⟨_, rfl⟩
        rw [hW5] at hR5 hB5 pr5 ⊢
        clear hW5 hB45 pg5 ph5 hv5 hsh hwt hv4 hb4 x0 x2 y0 y2 z0 z2 hv pg ph pr hB3 ch a0 a1 a2 a3 fh fg hht hgt ne1
        go_wp2_with fail
        have ps6 := pBlk_made W5 #[.int .i64 27, .int .i64 1] 3
        have hb6 := (Below.refl W5.heap.size W5).alloc (Nat.le_refl _) (.cells #[.int .i64 27, .int .i64 1] 3)
        have hR6 := hR5.below hb6
        have pr6 := pBlk_st _ _ _ _ _ pr5 hb6
        have hB6 := hB5.trans (hb6.mono (by have := pr5.lt; omega))
        obtain ⟨s, hs⟩ : ∃ s, W5.heap.size = s := ⟨_, rfl⟩
        obtain ⟨W6, hW6⟩ : ∃ W6, W5.alloc (.cells #[.int .i64 27, .int .i64 1] 3) = W6 := ⟨_, rfl⟩
        have hsg : g + 1 < s := by have := pr5.lt; omega
        have hhs : h < s := by obtain ⟨-, -, -, A9, n9, c9, -, p9, -⟩ := hR5; have := p9.lt; omega
        rw [hs] at ps6 ⊢
        rw [hW6] at ps6 hR6 pr6 hB6 ⊢
        clear hR5 pr5 hB5 hb6 hs hW6
        have x0 := ps6.cell 0 _ rfl
        have x1 := ps6.cell 1 _ rfl
        have xs := ps6.lt
        refine wp_loop_rounds 3 ?_
        rw [rounds_succ]
        go_wp2_with fail
        go_loopg [] Y (fun k wr => ∃ X b : Nat, k = X ∧ Hid (Y = X * 5 ^ b) ∧ 0 < X ∧ RedS g g h neg (.slice A n c) (t + low) (f + b) X wr ∧ pBlk (g + 1) #[.bool false, .slice none 0 0, .int .i64 0, .int .i64 0] 101 wr ∧ pBlk s #[.int .i64 27, .int .i64 1] 3 wr ∧ Below g w wr)
        case atStart => exact ⟨Y, 0, rfl, Lib.hid (by simp), hY0, by simpa using hR6, pr6, ps6, hB6⟩
        case round =>
          obtain ⟨X, b, rfl, hX, hX0, hR, pr, ps, hB⟩ := hrel
          have hbb := hYb.out gk b hX.out hX0
          have ho := Lib.hid (out_any 27 (by decide) hR ⟨by omega, by omega⟩ (fun x => by simp))
          clear hR6 pr6 ps6 hB6 x0 x1 xs
          have y1 := ps.cell 1 _ rfl
          go_wp2_with fail
          refine ho.out.mono ?_
          rintro e w7 (⟨hz, rfl, hR7, hb7, hk7⟩ | ⟨hz, rfl, hR7, hb7, hk7⟩)
          · have pr7 := hk7.blk pr (by omega) (by omega)
            have ps7 := hk7.blk ps (by omega) (by omega)
            have hB7 := hB.trans hb7
            have x1 := ps7.cell 1 _ rfl
            have xs := ps7.lt
            clear hR pr ps hB hb7 hk7 ho y1
            go_wp2_with fail
            rw [rounds_succ]
            go_wp2_with fail
            go_loopg [] gk (fun k wr => ∃ X b : Nat, k = X ∧ Hid (Y = X * 5 ^ b) ∧ 0 < X ∧ RedS g g h neg (.slice A n c) (t + low) (f + b) X wr ∧ pBlk (g + 1) #[.bool false, .slice none 0 0, .int .i64 0, .int .i64 0] 101 wr ∧ Below g w wr)
            case atStart => exact ⟨gk, b, rfl, hX, hX0, hR7, pr7, hB7⟩
            case round =>
              clear hR7 pr7 ps7 hB7 x1 xs hX hX0 hbb hz b
              obtain ⟨X, b, rfl, hX, hX0, hR, pr, hB⟩ := hrel
              have hbb := hYb.out gk b hX.out hX0
              have ho := Lib.hid (out_any 1 (by decide) hR ⟨by omega, by omega⟩ (fun x => by simp))
              go_wp2_with fail
              refine ho.out.mono ?_
              rintro e w8 (⟨hz, rfl, hR8, hb8, hk8⟩ | ⟨hz, rfl, hR8, hb8, hk8⟩)
              · have pr8 := hk8.blk pr (by omega) (by omega)
                have hB8 := hB.trans hb8
                clear hR pr hB hb8 hk8 ho
                obtain ⟨-, -, -, A8, n8, c8, pg8, ph8, hv8⟩ := hR8
                obtain ⟨a0, a1, a2, a3⟩ := cells4R pg8
                have h8 := ph8.cell 0 _ rfl
                have fg := pg8.free 1
                have hgl := pg8.lt
                have hhl := ph8.lt
                have pg9 : pBlk g #[.bool neg, .slice A8 n8 c8, .int .i64 (t + low), .int .i64 (f + b)] 101 (w8.setCell ⟨g, 1, none⟩ (.slice A8 n8 c8)) := pg8.setX 1 _
                have pr9 : pBlk (g + 1) #[.bool false, .slice none 0 0, .int .i64 0, .int .i64 0] 101 (w8.setCell ⟨g, 1, none⟩ (.slice A8 n8 c8)) := pr8.othR (show g + 1 ≠ g by omega) _ _
                have hv9 := IsT.apartX (i := 1) (u := .slice A8 n8 c8) hv8 pg8 (fun x hx n => by simp at hx; rcases hx with rfl | rfl | rfl | rfl <;> simp)
                have hB9 : Below g w (w8.setCell ⟨g, 1, none⟩ (.slice A8 n8 c8)) := hB8.setCell (Nat.le_refl _) _
                go_wp2_with fail
                rw [rounds_succ]
                go_wp2_with (first | ((with_reducible show wpList _ _ _ (Oper.mk _ (Op.store 101 _ _) _ _ _ _ :: _) _ _); refine wpList_store_keep _ rfl 101 _ _ rfl (g + 1) #[.bool neg, .slice A8 n8 c8, .int .i64 (t + low), .int .i64 (f + b)] #[.bool false, .slice none 0 0, .int .i64 0, .int .i64 0] 101 rfl rfl pr9 exact_size rfl (by simp [Value.oneCell']) noU ?_; intro w10 hp10 hb10 hk10; obtain ⟨r0, r1, r2, r3⟩ := cells4R hp10))
                exact bodyPost_ret (v := .agg #[.bool neg, .slice A8 n8 c8, .int .i64 (t + low), .int .i64 (f + b)]) (by simp [results, Tryz.results185, go_sem, r0, r1, r2, r3]) rfl
                  ⟨gk, low, b, A8, n8, c8, rfl, by rw [hN.out, hX.out]; ac_rfl, ⟨odd_left hX.out hodd.out, by simpa using hz⟩, hk10 _ _ _ hv9, (hB9.trans (hb10.mono (by omega))).mono (Nat.le_of_eq hg0.out.symm)⟩
              · go_wp2
                go_roundg (gk / 5 ^ 1)
                case measure => exact Nat.div_lt_self hX0 (by decide)
                case rel => exact ⟨gk / 5 ^ 1, b + 1, rfl, div_five hX hz, div_pos5 hX0 hz, by rw [show f + ((b + 1 : Nat) : Int) = f + (b : Int) + ((1 : Nat) : Int) by omega]; exact hR8, hk8.blk pr (by omega) (by omega), hB.trans hb8⟩
          · go_wp2
            go_roundg (gk / 5 ^ 27)
            case measure => exact Nat.div_lt_self hX0 (by decide)
            case rel => exact ⟨gk / 5 ^ 27, b + 27, rfl, div_five hX hz, div_pos5 hX0 hz, by rw [show f + ((b + 27 : Nat) : Int) = f + (b : Int) + ((27 : Nat) : Int) by omega]; exact hR7, hk7.blk pr (by omega) (by omega), hk7.blk ps (by omega) (by omega), hB.trans hb7⟩
    case inl =>
      rw [decide_eq_false (show ¬ low = a by omega)] at hbt
      replace hbt := Lib.hid hbt
      go_wp2_with fail
      refine hbt.out.mono ?_
      rintro e w3 ⟨rfl, rfl⟩
      go_wp2
      go_roundg (gk - 1)
      case measure => omega
      case rel => exact ⟨low + 1, by simp, by omega, rfl⟩
theorem red_any {w : World} {A : Option Addr} {n c N : Nat} (neg : Bool) (t f : Int) (h : IsT w (.slice A n c) 128 N) (h0 : 0 < N) (ht : -20000 ≤ t ∧ t ≤ 20000) (hf : -20000 ≤ f ∧ f ≤ 20000) :
    Calls Tryz.prog 185 #[.agg #[.bool neg, .slice A n c, .int .i64 t, .int .i64 f]] w fun e w' => ∃ (Y a b : Nat) (A' : Option Addr) (n' c' : Nat), e = .returned (.agg #[.bool neg, .slice A' n' c', .int .i64 (t + a), .int .i64 (f + b)]) ∧ N = Y * 2 ^ a * 5 ^ b ∧ IsT w' (.slice A' n' c') 128 Y ∧ Below w.heap.size w w' :=
  (red_full neg t f h h0 ht hf).mono fun _ _ ⟨Y, a, b, A', n', c', he, hN, _, hv, hb⟩ => ⟨Y, a, b, A', n', c', he, hN, hv, hb⟩
end Go.Proofs.YtobokaafmcfeaaaGreatDoor
namespace Go.Proofs.YtobokaafmcfeaaaGreatDoor
open Go.RowKit Go.Cal
theorem IsT.up {w : World} {v : Value} {k k' N : Nat} (h : IsT w v k N) (hk : k ≤ k') : IsT w v k' N := by
  obtain ⟨A, c, zs, h1, h2, h3, h4, h5, h6⟩ := h
  exact ⟨A, c, zs, h1, h2, h3, h4, by omega, h6⟩
theorem top_bit {X k : Nat} (h : X < 2 ^ (k + 1)) : X.testBit k = decide (2 ^ k ≤ X) := by
  rw [Nat.testBit_eq_decide_div_mod_eq]
  have h0 := Nat.two_pow_pos k
  rw [Nat.pow_succ] at h
  rcases Nat.lt_or_ge X (2 ^ k) with hlt | hge
  · rw [Nat.div_eq_of_lt hlt]
    simp; exact hlt
  · have : X / 2 ^ k = 1 := Nat.div_eq_of_lt_le (by omega) (by omega)
    rw [this]
    simp; exact hge
section
variable {w W W' : World} {A A1 : Option Addr} {n c n1 c1 X Y g k : Nat} {id : Int}
set_option maxRecDepth 100000 in
set_option maxHeartbeats 1000000 in
/-- Bits of the other sign. -/
theorem turned_q (h1 : 1 ≤ id) (h4 : id ≤ 4) (hk : k ≤ 20) (hY : Y < 2 ^ quS id) (hb : IsT W (.slice A1 n1 c1) k Y) (hc : W.cell? ⟨g, 1, none⟩ = some (.int .i64 (fW id))) :
    Calls Tryz.prog 96 #[.pointer (some ⟨g, 0, none⟩), .slice A1 n1 c1] W fun e w' => ∃ A2 n2 c2, e = .returned (.slice A2 n2 c2) ∧ IsT w' (.slice A2 n2 c2) 18 (quT id Y) ∧ Below W.heap.size W w' := by
  obtain ⟨s1, s2, -⟩ := quS_bnd h1 h4
  rcases isT_zero hb with ⟨z1, z2⟩ | ⟨z1, z2⟩
  · have hT : quT id Y = 0 := by unfold quT; rw [if_pos z2]
    rw [hT]
    subst z1
    have hb' : IsT W (.slice A1 0 c1) 18 0 := by rw [z2] at hb; exact hb.more16 (by decide +kernel)
    clear hb z2 hT hY s1 s2 hc
    go_enter Tryz.func96, Tryz.ntmps96
    go_wp2
    go_ret
    exact ⟨_, _, _, rfl, hb', Below.refl _ _⟩
  · have hT : quT id Y = 2 ^ quS id - Y := by unfold quT; rw [if_neg (by omega)]
    rw [hT]
    have hz : ((n1 : Int) == 0) = false := by simp; omega
    have hsz := Lib.hid (qsz_q h1 h4 hc)
    obtain ⟨S, hS⟩ : ∃ S, quS id = S := ⟨_, rfl⟩
    rw [hS] at hsz hY s1 s2 ⊢
    have hpw := Lib.hid fun w => power_t S (by omega) w
    have hsb := Lib.hid fun (w : World) (v1 v2 : Value) (a : IsT w v1 18 (2 ^ S)) (b : IsT w v2 k Y) => sub_t (IsT.isN a) (IsT.isN b) (by decide) (by omega) (Nat.le_of_lt hY)
    clear hS hT hc hY z2
    go_enter Tryz.func96, Tryz.ntmps96
    go_wp2_with fail
    refine hsz.out.mono ?_
    rintro e w1 ⟨rfl, rfl⟩
    go_wp2_with fail
    refine (hpw.out _).mono ?_
    rintro e w2 ⟨v2, rfl, hv2, hb2⟩
    go_wp2_with fail
    refine (hsb.out _ _ _ hv2 (hb.below hb2)).mono ?_
    rintro e w3 ⟨v3, rfl, hv3, hb3⟩
    obtain ⟨A3, c3, z3, rfl, -⟩ := _root_.id hv3
    go_wp2
    go_ret
    exact ⟨_, _, _, rfl, hv3, hb2.trans (hb3.mono hb2.size)⟩
set_option maxRecDepth 100000 in
set_option maxHeartbeats 2000000 in
/-- Is it NaR? -/
theorem isnar_q (h1 : 1 ≤ id) (h4 : id ≤ 4) (hL : LiveP w W [pT (.slice A n c) 16 X, pBlk g #[.int .i64 (fK id), .int .i64 (fW id), .int .i64 (fM id), .int .i64 (fB id), .int .u64 (fT id), .int .u64 (fI id), .int .u64 (fN id), .int .i64 id, .slice A n c] 135]) : Calls Tryz.prog 95 #[.pointer (some ⟨g, 0, none⟩)] W fun e w' => e = .returned (.bool (decide (X = quN id))) ∧ Below W.heap.size W w' := by
  have hLw := ((LiveP.start W).put (pBlk_st g #[.int .i64 (fK id), .int .i64 (fW id), .int .i64 (fM id), .int .i64 (fB id), .int .u64 (fT id), .int .u64 (fI id), .int .u64 (fN id), .int .i64 id, .slice A n c] 135) (hL.get (P := pBlk g #[.int .i64 (fK id), .int .i64 (fW id), .int .i64 (fM id), .int .i64 (fB id), .int .u64 (fT id), .int .u64 (fI id), .int .u64 (fN id), .int .i64 id, .slice A n c] 135) (by repeat (first | exact List.mem_cons_self | apply List.mem_cons_of_mem)))).put (pT_st (.slice A n c) 16 X) (hL.get (P := pT (.slice A n c) 16 X) (by repeat (first | exact List.mem_cons_self | apply List.mem_cons_of_mem)))
  have hS0 := boxQ (hLw.go (Below.refl _ _).drew)
  have hnr := Lib.hid fun (W' : World) (hS : (LiveP W W' [pT (.slice A n c) 16 X, pBlk g #[.int .i64 (fK id), .int .i64 (fW id), .int .i64 (fM id), .int .i64 (fB id), .int .u64 (fT id), .int .u64 (fI id), .int .u64 (fN id), .int .i64 id, .slice A n c] 135] ∧ g < W'.heap.size ∧ W'.cell? ⟨g, 1, none⟩ = some (.int .i64 (fW id)) ∧ W'.cell? ⟨g, 8, none⟩ = some (.slice A n c))) => qnar_q h1 h4 hS.2.2.1
  have hcm := Lib.hid fun (W' : World) (v : Value) (hS : (LiveP W W' [pT (.slice A n c) 16 X, pBlk g #[.int .i64 (fK id), .int .i64 (fW id), .int .i64 (fM id), .int .i64 (fB id), .int .u64 (fT id), .int .u64 (fI id), .int .u64 (fN id), .int .i64 id, .slice A n c] 135] ∧ g < W'.heap.size ∧ W'.cell? ⟨g, 1, none⟩ = some (.int .i64 (fW id)) ∧ W'.cell? ⟨g, 8, none⟩ = some (.slice A n c))) (b : IsT W' v 18 (quN id)) => cmp_t (IsT.isN (hS.1.get (P := pT (.slice A n c) 16 X) (by repeat (first | exact List.mem_cons_self | apply List.mem_cons_of_mem)))) (IsT.isN b) (by decide) (by decide)
  obtain ⟨b, hb⟩ : ∃ b, decide (X = quN id) = b := ⟨_, rfl⟩
  have hcv : (cmpV ((X : Nat) : Int) ((quN id : Nat) : Int) == 0) = b := by
    rw [← hb]
    rcases cmpV_cases ((X : Nat) : Int) ((quN id : Nat) : Int) with ⟨h, hv⟩ | ⟨h, hv⟩ | ⟨h, hv⟩
    · rw [hv, decide_eq_false (by omega)]; rfl
    · rw [hv, decide_eq_false (by omega)]; rfl
    · rw [hv, decide_eq_true (by omega)]; rfl
  rw [hb]
  generalize cmpV ((X : Nat) : Int) ((quN id : Nat) : Int) = z at hcm hcv
  clear hb hL
  go_enter Tryz.func95, Tryz.ntmps95
  go_wp2_with fail
  go_region_held3 (fun w' => (LiveP W w' [pT (.slice A n c) 16 X, pBlk g #[.int .i64 (fK id), .int .i64 (fW id), .int .i64 (fM id), .int .i64 (fB id), .int .u64 (fT id), .int .u64 (fI id), .int .u64 (fN id), .int .i64 id, .slice A n c] 135] ∧ g < (w').heap.size ∧ (w').cell? ⟨g, 1, none⟩ = some (.int .i64 (fW id)) ∧ (w').cell? ⟨g, 8, none⟩ = some (.slice A n c))) (first | exact hS0 | with_reducible assumption | exact keepQ (by with_reducible assumption) (by with_reducible assumption))
    (first
      | (go_at_call 178; with_reducible refine (hnr.out _ (by with_reducible assumption)).mono ?_; rintro e w4 ⟨v4, rfl, hv4, hb4⟩)
      | (go_at_call 27; with_reducible refine (hcm.out _ _ (by with_reducible assumption) (by first | with_reducible assumption | exact hv4.below (by with_reducible assumption))).mono ?_; rintro e w5 ⟨rfl, hb5⟩))
  have hq : (LiveP W w5 [pT (.slice A n c) 16 X, pBlk g #[.int .i64 (fK id), .int .i64 (fW id), .int .i64 (fM id), .int .i64 (fB id), .int .u64 (fT id), .int .u64 (fI id), .int .u64 (fN id), .int .i64 id, .slice A n c] 135] ∧ g < (w5).heap.size ∧ (w5).cell? ⟨g, 1, none⟩ = some (.int .i64 (fW id)) ∧ (w5).cell? ⟨g, 8, none⟩ = some (.slice A n c)) := by with_reducible assumption
  go_wp2
  go_ret
  exact ⟨rfl, hq.1.below⟩
set_option maxRecDepth 100000 in
set_option maxHeartbeats 2000000 in
/-- The sign and the size. -/
theorem qsize_q (h1 : 1 ≤ id) (h4 : id ≤ 4) (hX : X < 2 ^ quS id) (hL : LiveP w W [pT (.slice A n c) 16 X, pBlk g #[.int .i64 (fK id), .int .i64 (fW id), .int .i64 (fM id), .int .i64 (fB id), .int .u64 (fT id), .int .u64 (fI id), .int .u64 (fN id), .int .i64 id, .slice A n c] 135]) : Calls Tryz.prog 184 #[.pointer (some ⟨g, 0, none⟩)] W fun e w' => ∃ A2 n2 c2, e = .returned (.tuple #[.slice A2 n2 c2, .bool (quB id X)]) ∧ IsT w' (.slice A2 n2 c2) 18 (quA id X) ∧ Below W.heap.size W w' := by
  have hLw := ((LiveP.start W).put (pBlk_st g #[.int .i64 (fK id), .int .i64 (fW id), .int .i64 (fM id), .int .i64 (fB id), .int .u64 (fT id), .int .u64 (fI id), .int .u64 (fN id), .int .i64 id, .slice A n c] 135) (hL.get (P := pBlk g #[.int .i64 (fK id), .int .i64 (fW id), .int .i64 (fM id), .int .i64 (fB id), .int .u64 (fT id), .int .u64 (fI id), .int .u64 (fN id), .int .i64 id, .slice A n c] 135) (by repeat (first | exact List.mem_cons_self | apply List.mem_cons_of_mem)))).put (pT_st (.slice A n c) 16 X) (hL.get (P := pT (.slice A n c) 16 X) (by repeat (first | exact List.mem_cons_self | apply List.mem_cons_of_mem)))
  have hS0 := boxQ (hLw.go (Below.refl _ _).drew)
  obtain ⟨s1, s2, -⟩ := quS_bnd h1 h4
  obtain ⟨S, hS⟩ : ∃ S, quS id = S + 1 := ⟨quS id - 1, by omega⟩
  have hsz := Lib.hid fun (W' : World) (hS : (LiveP W W' [pT (.slice A n c) 16 X, pBlk g #[.int .i64 (fK id), .int .i64 (fW id), .int .i64 (fM id), .int .i64 (fB id), .int .u64 (fT id), .int .u64 (fI id), .int .u64 (fN id), .int .i64 id, .slice A n c] 135] ∧ g < W'.heap.size ∧ W'.cell? ⟨g, 1, none⟩ = some (.int .i64 (fW id)) ∧ W'.cell? ⟨g, 8, none⟩ = some (.slice A n c))) => qsz_q (W := W') (g := g) h1 h4 hS.2.2.1
  obtain ⟨Z, hZ⟩ : ∃ Z : Int, ((quS id : Nat) : Int) = Z := ⟨_, rfl⟩
  rw [hZ] at hsz
  have hwz : Hid (IntKind.i64.wrap (Z - 1) = (S : Int)) := by show _ = _; rw [IntKind.wrap_i64]; omega
  have hz1 : Hid (Z - 1 = (S : Int)) := by show _ = _; omega
  have hzb : 128 ≤ Z ∧ Z ≤ 1024 := by omega
  obtain ⟨zb1, zb2⟩ := hzb
  have hbq : X.testBit S = quB id X := by
    rw [hS] at hX
    rw [top_bit hX]
    unfold quB quN
    rw [hS]; rfl
  have hbt := Lib.hid fun (W' : World) (hS : (LiveP W W' [pT (.slice A n c) 16 X, pBlk g #[.int .i64 (fK id), .int .i64 (fW id), .int .i64 (fM id), .int .i64 (fB id), .int .u64 (fT id), .int .u64 (fI id), .int .u64 (fN id), .int .i64 id, .slice A n c] 135] ∧ g < W'.heap.size ∧ W'.cell? ⟨g, 1, none⟩ = some (.int .i64 (fW id)) ∧ W'.cell? ⟨g, 8, none⟩ = some (.slice A n c))) => bit_t (hS.1.get (P := pT (.slice A n c) 16 X) (by repeat (first | exact List.mem_cons_self | apply List.mem_cons_of_mem))) S (by omega)
  rw [hbq] at hbt
  have hA : quA id X = if quB id X = true then quT id X else X := rfl
  have htu := Lib.hid fun (W' : World) (hS : (LiveP W W' [pT (.slice A n c) 16 X, pBlk g #[.int .i64 (fK id), .int .i64 (fW id), .int .i64 (fM id), .int .i64 (fB id), .int .u64 (fT id), .int .u64 (fI id), .int .u64 (fN id), .int .i64 id, .slice A n c] 135] ∧ g < W'.heap.size ∧ W'.cell? ⟨g, 1, none⟩ = some (.int .i64 (fW id)) ∧ W'.cell? ⟨g, 8, none⟩ = some (.slice A n c))) => turned_q h1 h4 (by decide) hX (hS.1.get (P := pT (.slice A n c) 16 X) (by repeat (first | exact List.mem_cons_self | apply List.mem_cons_of_mem))) hS.2.2.1
  cases hb : quB id X with
  | true =>
    rw [hb] at hA hbt
    rw [if_pos rfl] at hA
    rw [hA]
    clear hb hbq hS hX hA hL hZ s1 s2
    go_enter Tryz.func184, Tryz.ntmps184
    go_wp2_with fail
    go_region_held3 (fun w' => (LiveP W w' [pT (.slice A n c) 16 X, pBlk g #[.int .i64 (fK id), .int .i64 (fW id), .int .i64 (fM id), .int .i64 (fB id), .int .u64 (fT id), .int .u64 (fI id), .int .u64 (fN id), .int .i64 id, .slice A n c] 135] ∧ g < (w').heap.size ∧ (w').cell? ⟨g, 1, none⟩ = some (.int .i64 (fW id)) ∧ (w').cell? ⟨g, 8, none⟩ = some (.slice A n c))) (first | exact hS0 | with_reducible assumption | exact keepQ (by with_reducible assumption) (by with_reducible assumption))
      (first
        | (go_at_call 183; with_reducible refine (hsz.out _ (by with_reducible assumption)).mono ?_; rintro e w4 ⟨rfl, rfl⟩)
        | (go_at_call 238; (try rw [hwz.out]); (try rw [hz1.out]); with_reducible refine (hbt.out _ (by with_reducible assumption)).mono ?_; rintro e w5 ⟨rfl, rfl⟩))
    obtain ⟨-, hgl, q1, q8⟩ := _root_.id hS0
    go_wp2_with fail
    refine (htu.out _ hS0).mono ?_
    rintro e w6 ⟨A6, n6, c6, rfl, hv6, hb6⟩
    go_wp2
    go_ret2
    exact ⟨_, _, _, (by first | rfl | trivial), hv6, (Below.refl _ _).drew.trans hb6⟩
  | false =>
    rw [hb] at hA hbt
    rw [if_neg (by decide)] at hA
    rw [hA]
    clear hb hbq hS hX hA hL hZ s1 s2 htu
    go_enter Tryz.func184, Tryz.ntmps184
    go_wp2_with fail
    go_region_held3 (fun w' => (LiveP W w' [pT (.slice A n c) 16 X, pBlk g #[.int .i64 (fK id), .int .i64 (fW id), .int .i64 (fM id), .int .i64 (fB id), .int .u64 (fT id), .int .u64 (fI id), .int .u64 (fN id), .int .i64 id, .slice A n c] 135] ∧ g < (w').heap.size ∧ (w').cell? ⟨g, 1, none⟩ = some (.int .i64 (fW id)) ∧ (w').cell? ⟨g, 8, none⟩ = some (.slice A n c))) (first | exact hS0 | with_reducible assumption | exact keepQ (by with_reducible assumption) (by with_reducible assumption))
      (first
        | (go_at_call 183; with_reducible refine (hsz.out _ (by with_reducible assumption)).mono ?_; rintro e w4 ⟨rfl, rfl⟩)
        | (go_at_call 238; (try rw [hwz.out]); (try rw [hz1.out]); with_reducible refine (hbt.out _ (by with_reducible assumption)).mono ?_; rintro e w5 ⟨rfl, rfl⟩))
    obtain ⟨-, hgl, q1, q8⟩ := _root_.id hS0
    have hv6 := (hS0.1.get (P := pT (.slice A n c) 16 X) (by repeat (first | exact List.mem_cons_self | apply List.mem_cons_of_mem)) : IsT W.drew (.slice A n c) 16 X).up (show 16 ≤ 18 by decide)
    go_wp2
    go_ret2
    exact ⟨_, _, _, (by first | rfl | trivial), hv6, (Below.refl _ _).drew⟩
end
end Go.Proofs.YtobokaafmcfeaaaGreatDoor
namespace Go.Proofs.YtobokaafmcfeaaaGreatDoor
open Go.RowKit Go.Cal
theorem nil_tW (w : World) (k : Nat) : IsT w (.slice none 0 0) k 0 := ⟨none, 0, [], rfl, .nil, Nat.le_refl _, by unfold maxLen; omega, by simp, .zero⟩
theorem round_yes (ti mode : Int) (neg : Bool) (N : Nat) (t f : Int) (hm : roundE ti mode = 0) (ht : -5000 ≤ t ∧ t ≤ 5000) (hf : -5000 ≤ f ∧ f ≤ 5000) {W : World} {A : Option Addr} {n c : Nat} (hW : VaW W) (hv : IsT W (.slice A n c) 128 N) :
    Calls Tryz.prog 62 #[.int .i64 ti, .int .i64 mode, .agg #[.bool neg, .slice A n c, .int .i64 t, .int .i64 f]] W fun e w' => e = .returned (.tuple #[.int .u64 (roundP ti mode neg (exP N t f) (exQ t f)), .int .i64 0]) ∧ Below W.heap.size W w' := by
  have h := rround_any ti mode neg t f hW hv ht hf
  unfold roundR at h
  rw [if_pos hm, hm] at h
  exact h
end Go.Proofs.YtobokaafmcfeaaaGreatDoor
