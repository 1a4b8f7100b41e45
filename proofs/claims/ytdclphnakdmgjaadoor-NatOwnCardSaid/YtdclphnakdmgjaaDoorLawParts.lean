/- The laws NatParts and NatOrder, walked. Condition: the table of powers reads as it is laid. -/
import Derived.Test.YtdclphnakdmgjaaDoorNatT
namespace Go.Proofs.YtdclphnakdmgjaaDoor
open Go.RowKit Go.Cal
theorem blen_pos {N : Nat} (h : 0 < N) : 0 < blen N := by
  unfold blen
  rw [if_neg (by omega)]
  omega
theorem cmpV_neg (a b : Int) : cmpV b a = -cmpV a b := by
  rcases cmpV_cases a b with ⟨h, e⟩ | ⟨h, e⟩ | ⟨h, e⟩ <;> rw [e]
  · exact cmpV_gt h
  · exact cmpV_lt h
  · exact cmpV_eq h.symm
theorem cmpV_bd (a b : Int) : -1 ≤ cmpV a b ∧ cmpV a b ≤ 1 := by rcases cmpV_cases a b with ⟨_, e⟩ | ⟨_, e⟩ | ⟨_, e⟩ <;> omega
theorem cmpV_trans {a b c : Int} (h1 : cmpV a b ≤ 0) (h2 : cmpV b c ≤ 0) : cmpV a c ≤ 0 := by
  rcases cmpV_cases a b with ⟨h, e⟩ | ⟨h, e⟩ | ⟨h, e⟩ <;> rcases cmpV_cases b c with ⟨h', e'⟩ | ⟨h', e'⟩ | ⟨h', e'⟩ <;> rcases cmpV_cases a c with ⟨h3, e3⟩ | ⟨h3, e3⟩ | ⟨h3, e3⟩ <;> omega
theorem cmpV_mono {a b c d : Int} (h : a < b ↔ c < d) (h' : b < a ↔ d < c) : cmpV a b = cmpV c d := by
  rcases cmpV_cases a b with ⟨h1, e⟩ | ⟨h1, e⟩ | ⟨h1, e⟩ <;> rcases cmpV_cases c d with ⟨h2, e'⟩ | ⟨h2, e'⟩ | ⟨h2, e'⟩ <;> omega
theorem cmpV_addr (a b c : Nat) : cmpV ((a + c : Nat) : Int) ((b + c : Nat) : Int) = cmpV (a : Int) (b : Int) := cmpV_mono (by omega) (by omega)
theorem cmpV_mulr (a b : Nat) {c : Nat} (hc : 0 < c) : cmpV ((a * c : Nat) : Int) ((b * c : Nat) : Int) = cmpV (a : Int) (b : Int) := by
  have h1 : ∀ x y : Nat, x * c < y * c ↔ x < y := fun x y => ⟨fun h => Nat.lt_of_mul_lt_mul_right h, fun h => Nat.mul_lt_mul_of_pos_right h hc⟩
  exact cmpV_mono (by rw [Int.ofNat_lt, Int.ofNat_lt]; exact h1 a b) (by rw [Int.ofNat_lt, Int.ofNat_lt]; exact h1 b a)
set_option maxRecDepth 100000 in
set_option maxHeartbeats 8000000 in
theorem natParts_any (v1 v2 : Value) (w : World) (hT : Tab10 w) (ha1 : ArgN w v1) (ha2 : ArgN w v2) :
    Calls Tryd.prog 4 #[v1, v2] w fun e w' => e = .returned (.bool true) ∧ Below w.heap.size w w' := by
  go_enter Tryd.func4, Tryd.ntmps4
  have hL0 := Live.start w
  go_wp2_with fail
  refine ((shown_any w hT)).mono ?_
  rintro e w1 ⟨rfl, hb1⟩
  replace hL0 := hL0.go hb1
  clear hb1
  go_wp2_with fail
  refine (few_a 30 hL0 (v := v1) ha1 (by decide) (by decide)).mono ?_
  rintro e w2 ⟨u2, X, rfl, hL2⟩
  clear hL0
  go_wp2_with fail
  refine (few_a 30 hL2 (v := v2) ha2 (by decide) (by decide)).mono ?_
  rintro e w3 ⟨u3, Y, rfl, hL3⟩
  clear hL2
  rcases Nat.eq_zero_or_pos Y with rfl | hY
  · go_wp2_with fail
    refine (div_none hL3 (v1 := u2) (v2 := u3) (by repeat (first | exact List.mem_cons_self | apply List.mem_cons_of_mem)) (by repeat (first | exact List.mem_cons_self | apply List.mem_cons_of_mem)) (by decide) (by decide)).mono ?_
    rintro e w4 ⟨rfl, hL4⟩
    clear hL3
    go_wp2_with fail
    refine (bits_l hL4 (v1 := u3) (by repeat (first | exact List.mem_cons_self | apply List.mem_cons_of_mem)) (by decide)).mono ?_
    rintro e w' ⟨rfl, rfl⟩
    rw [blen_zero]
    go_wp2
    go_ret
    exact ⟨rfl, hL4.below⟩
  · go_wp2_with fail
    refine (div_l hL3 (v1 := u2) (v2 := u3) (by repeat (first | exact List.mem_cons_self | apply List.mem_cons_of_mem)) (by repeat (first | exact List.mem_cons_self | apply List.mem_cons_of_mem)) (by decide) (by decide) hY).mono ?_
    rintro e w4 ⟨q4, r4, rfl, hL4⟩
    clear hL3
    have hbl := blen_pos hY
    have hbits := bits_l hL4 (v1 := u3) (by repeat (first | exact List.mem_cons_self | apply List.mem_cons_of_mem)) (by decide)
    generalize blen Y = bl at hbl hbits
    have hbl' : ((bl : Int) == 0) = false := by simp; omega
    replace hbits := Lib.hid hbits
    go_wp2_with fail
    refine (hbits.out).mono ?_
    rintro e w' ⟨rfl, rfl⟩
    clear hbits
    go_wp2_with fail
    refine (cmp_is (-1) hL4 (by repeat (first | exact List.mem_cons_self | apply List.mem_cons_of_mem)) (by repeat (first | exact List.mem_cons_self | apply List.mem_cons_of_mem)) (by decide) (by decide) (cmpV_lt (by have := Nat.mod_lt X hY; omega))).mono ?_
    rintro e w5 ⟨rfl, hL5⟩
    clear hL4
    go_wp2_with fail
    refine (mul_l hL5 (v1 := q4) (v2 := u3) (by repeat (first | exact List.mem_cons_self | apply List.mem_cons_of_mem)) (by repeat (first | exact List.mem_cons_self | apply List.mem_cons_of_mem)) (by decide) (by decide)).mono ?_
    rintro e w6 ⟨u6, rfl, hL6⟩
    clear hL5
    go_wp2_with fail
    refine (add_l hL6 (v1 := u6) (v2 := r4) (by repeat (first | exact List.mem_cons_self | apply List.mem_cons_of_mem)) (by repeat (first | exact List.mem_cons_self | apply List.mem_cons_of_mem)) (by decide) (by decide)).mono ?_
    rintro e w7 ⟨u7, rfl, hL7⟩
    clear hL6
    go_wp2_with fail
    refine (cmp_same hL7 (by repeat (first | exact List.mem_cons_self | apply List.mem_cons_of_mem)) (by repeat (first | exact List.mem_cons_self | apply List.mem_cons_of_mem)) (by decide) (by decide) (by rw [Nat.mul_comm]; exact Nat.div_add_mod X Y)).mono ?_
    rintro e w8 ⟨rfl, hL8⟩
    clear hL7
    go_wp2
    go_ret
    exact ⟨rfl, hL8.below⟩
set_option maxRecDepth 100000 in
set_option maxHeartbeats 8000000 in
theorem natOrder_any (v1 v2 v3 : Value) (w : World) (hT : Tab10 w) (ha1 : ArgN w v1) (ha2 : ArgN w v2) (ha3 : ArgN w v3) :
    Calls Tryd.prog 5 #[v1, v2, v3] w fun e w' => e = .returned (.bool true) ∧ Below w.heap.size w w' := by
  go_enter Tryd.func5, Tryd.ntmps5
  have hL0 := Live.start w
  go_wp2_with fail
  refine ((shown_any w hT)).mono ?_
  rintro e w1 ⟨rfl, hb1⟩
  replace hL0 := hL0.go hb1
  clear hb1
  go_wp2_with fail
  refine (few_a 20 hL0 (v := v1) ha1 (by decide) (by decide)).mono ?_
  rintro e w2 ⟨u2, X, rfl, hL2⟩
  clear hL0
  go_wp2_with fail
  refine (few_a 20 hL2 (v := v2) ha2 (by decide) (by decide)).mono ?_
  rintro e w3 ⟨u3, Y, rfl, hL3⟩
  clear hL2
  go_wp2_with fail
  refine (few_a 20 hL3 (v := v3) ha3 (by decide) (by decide)).mono ?_
  rintro e w4 ⟨u4, Z, rfl, hL4⟩
  clear hL3
  obtain ⟨p, hp⟩ : ∃ p, cmpV (X : Int) (Y : Int) = p := ⟨_, rfl⟩
  obtain ⟨q, hq⟩ : ∃ p, cmpV (Y : Int) (Z : Int) = p := ⟨_, rfl⟩
  obtain ⟨r, hr⟩ : ∃ p, cmpV (X : Int) (Z : Int) = p := ⟨_, rfl⟩
  obtain ⟨hp1, hp2⟩ : -1 ≤ p ∧ p ≤ 1 := hp ▸ cmpV_bd _ _
  have hpr : p ≤ 0 → q ≤ 0 → r ≤ 0 := by rw [← hp, ← hq, ← hr]; exact cmpV_trans
  have hp' := cmpV_neg (X : Int) (Y : Int)
  rw [hp] at hp'
  replace hp := Lib.hid hp
  replace hq := Lib.hid hq
  replace hr := Lib.hid hr
  replace hp' := Lib.hid hp'
  go_wp2_with fail
  refine (cmp_is (p) hL4 (v1 := u2) (v2 := u3) (by repeat (first | exact List.mem_cons_self | apply List.mem_cons_of_mem)) (by repeat (first | exact List.mem_cons_self | apply List.mem_cons_of_mem)) (by decide) (by decide) (hp.out)).mono ?_
  rintro e w5 ⟨rfl, hL5⟩
  clear hL4
  go_wp2_with fail
  refine (cmp_is (-p) hL5 (v1 := u3) (v2 := u2) (by repeat (first | exact List.mem_cons_self | apply List.mem_cons_of_mem)) (by repeat (first | exact List.mem_cons_self | apply List.mem_cons_of_mem)) (by decide) (by decide) (hp'.out)).mono ?_
  rintro e w6 ⟨rfl, hL6⟩
  clear hL5
  go_wp2_with fail
  refine (cmp_is (0) hL6 (v1 := u2) (v2 := u2) (by repeat (first | exact List.mem_cons_self | apply List.mem_cons_of_mem)) (by repeat (first | exact List.mem_cons_self | apply List.mem_cons_of_mem)) (by decide) (by decide) (cmpV_eq rfl)).mono ?_
  rintro e w7 ⟨rfl, hL7⟩
  clear hL6
  go_wp2_with fail
  refine (cmp_is (p) hL7 (v1 := u2) (v2 := u3) (by repeat (first | exact List.mem_cons_self | apply List.mem_cons_of_mem)) (by repeat (first | exact List.mem_cons_self | apply List.mem_cons_of_mem)) (by decide) (by decide) (hp.out)).mono ?_
  rintro e w8 ⟨rfl, hL8⟩
  clear hL7
  by_cases hp0 : p ≤ 0
  · go_wp2_with fail
    refine (cmp_is (q) hL8 (v1 := u3) (v2 := u4) (by repeat (first | exact List.mem_cons_self | apply List.mem_cons_of_mem)) (by repeat (first | exact List.mem_cons_self | apply List.mem_cons_of_mem)) (by decide) (by decide) (hq.out)).mono ?_
    rintro e w9 ⟨rfl, hL9⟩
    clear hL8
    by_cases hq0 : q ≤ 0
    · have hr0 : ¬ 0 < r := by have := hpr hp0 hq0; omega
      clear hpr
      go_wp2_with fail
      refine (cmp_is (r) hL9 (v1 := u2) (v2 := u4) (by repeat (first | exact List.mem_cons_self | apply List.mem_cons_of_mem)) (by repeat (first | exact List.mem_cons_self | apply List.mem_cons_of_mem)) (by decide) (by decide) (hr.out)).mono ?_
      rintro e w10 ⟨rfl, hL10⟩
      clear hL9
      go_wp2_with fail
      refine (add_l hL10 (v1 := u2) (v2 := u4) (by repeat (first | exact List.mem_cons_self | apply List.mem_cons_of_mem)) (by repeat (first | exact List.mem_cons_self | apply List.mem_cons_of_mem)) (by decide) (by decide)).mono ?_
      rintro e w11 ⟨u11, rfl, hL11⟩
      clear hL10
      go_wp2_with fail
      refine (add_l hL11 (v1 := u3) (v2 := u4) (by repeat (first | exact List.mem_cons_self | apply List.mem_cons_of_mem)) (by repeat (first | exact List.mem_cons_self | apply List.mem_cons_of_mem)) (by decide) (by decide)).mono ?_
      rintro e w12 ⟨u12, rfl, hL12⟩
      clear hL11
      go_wp2_with fail
      refine (cmp_is (p) hL12 (v1 := u11) (v2 := u12) (by repeat (first | exact List.mem_cons_self | apply List.mem_cons_of_mem)) (by repeat (first | exact List.mem_cons_self | apply List.mem_cons_of_mem)) (by decide) (by decide) (by rw [cmpV_addr]; exact hp.out)).mono ?_
      rintro e w13 ⟨rfl, hL13⟩
      clear hL12
      go_wp2_with fail
      refine (cmp_is (p) hL13 (v1 := u2) (v2 := u3) (by repeat (first | exact List.mem_cons_self | apply List.mem_cons_of_mem)) (by repeat (first | exact List.mem_cons_self | apply List.mem_cons_of_mem)) (by decide) (by decide) (hp.out)).mono ?_
      rintro e w14 ⟨rfl, hL14⟩
      clear hL13
      go_wp2_with fail
      refine (add_l hL14 (v1 := u2) (v2 := u3) (by repeat (first | exact List.mem_cons_self | apply List.mem_cons_of_mem)) (by repeat (first | exact List.mem_cons_self | apply List.mem_cons_of_mem)) (by decide) (by decide)).mono ?_
      rintro e w15 ⟨u15, rfl, hL15⟩
      clear hL14
      go_wp2_with fail
      refine (cmp_l hL15 (v1 := u15) (v2 := u2) (by repeat (first | exact List.mem_cons_self | apply List.mem_cons_of_mem)) (by repeat (first | exact List.mem_cons_self | apply List.mem_cons_of_mem)) (by decide) (by decide)).mono ?_
      rintro e w16 ⟨rfl, hL16⟩
      clear hL15
      have hge : 0 ≤ cmpV ((X + Y : Nat) : Int) (X : Int) := by rcases cmpV_cases ((X + Y : Nat) : Int) (X : Int) with h | h | h <;> omega
      generalize cmpV ((X + Y : Nat) : Int) (X : Int) = gg at hge ⊢
      rcases Nat.eq_zero_or_pos Z with rfl | hZ
      · go_wp2_with fail
        refine (bits_l hL16 (v1 := u4) (by repeat (first | exact List.mem_cons_self | apply List.mem_cons_of_mem)) (by decide)).mono ?_
        rintro e w' ⟨rfl, rfl⟩
        rw [blen_zero]
        go_wp2
        go_ret
        exact ⟨rfl, hL16.below⟩
      · have hbl := blen_pos hZ
        have hbits := bits_l hL16 (v1 := u4) (by repeat (first | exact List.mem_cons_self | apply List.mem_cons_of_mem)) (by decide)
        generalize blen Z = bl at hbl hbits
        have hbl' : ((bl : Int) == 0) = false := by simp; omega
        replace hbits := Lib.hid hbits
        go_wp2_with fail
        refine (hbits.out).mono ?_
        rintro e w' ⟨rfl, rfl⟩
        clear hbits
        go_wp2_with fail
        refine (mul_l hL16 (v1 := u2) (v2 := u4) (by repeat (first | exact List.mem_cons_self | apply List.mem_cons_of_mem)) (by repeat (first | exact List.mem_cons_self | apply List.mem_cons_of_mem)) (by decide) (by decide)).mono ?_
        rintro e w17 ⟨u17, rfl, hL17⟩
        clear hL16
        go_wp2_with fail
        refine (mul_l hL17 (v1 := u3) (v2 := u4) (by repeat (first | exact List.mem_cons_self | apply List.mem_cons_of_mem)) (by repeat (first | exact List.mem_cons_self | apply List.mem_cons_of_mem)) (by decide) (by decide)).mono ?_
        rintro e w18 ⟨u18, rfl, hL18⟩
        clear hL17
        go_wp2_with fail
        refine (cmp_is (p) hL18 (v1 := u17) (v2 := u18) (by repeat (first | exact List.mem_cons_self | apply List.mem_cons_of_mem)) (by repeat (first | exact List.mem_cons_self | apply List.mem_cons_of_mem)) (by decide) (by decide) (by rw [cmpV_mulr _ _ hZ]; exact hp.out)).mono ?_
        rintro e w19 ⟨rfl, hL19⟩
        clear hL18
        go_wp2_with fail
        refine (cmp_is (p) hL19 (v1 := u2) (v2 := u3) (by repeat (first | exact List.mem_cons_self | apply List.mem_cons_of_mem)) (by repeat (first | exact List.mem_cons_self | apply List.mem_cons_of_mem)) (by decide) (by decide) (hp.out)).mono ?_
        rintro e w20 ⟨rfl, hL20⟩
        clear hL19
        go_wp2
        go_ret
        exact ⟨rfl, hL20.below⟩
    · clear hpr
      go_wp2_with fail
      refine (add_l hL9 (v1 := u2) (v2 := u4) (by repeat (first | exact List.mem_cons_self | apply List.mem_cons_of_mem)) (by repeat (first | exact List.mem_cons_self | apply List.mem_cons_of_mem)) (by decide) (by decide)).mono ?_
      rintro e w10 ⟨u10, rfl, hL10⟩
      clear hL9
      go_wp2_with fail
      refine (add_l hL10 (v1 := u3) (v2 := u4) (by repeat (first | exact List.mem_cons_self | apply List.mem_cons_of_mem)) (by repeat (first | exact List.mem_cons_self | apply List.mem_cons_of_mem)) (by decide) (by decide)).mono ?_
      rintro e w11 ⟨u11, rfl, hL11⟩
      clear hL10
      go_wp2_with fail
      refine (cmp_is (p) hL11 (v1 := u10) (v2 := u11) (by repeat (first | exact List.mem_cons_self | apply List.mem_cons_of_mem)) (by repeat (first | exact List.mem_cons_self | apply List.mem_cons_of_mem)) (by decide) (by decide) (by rw [cmpV_addr]; exact hp.out)).mono ?_
      rintro e w12 ⟨rfl, hL12⟩
      clear hL11
      go_wp2_with fail
      refine (cmp_is (p) hL12 (v1 := u2) (v2 := u3) (by repeat (first | exact List.mem_cons_self | apply List.mem_cons_of_mem)) (by repeat (first | exact List.mem_cons_self | apply List.mem_cons_of_mem)) (by decide) (by decide) (hp.out)).mono ?_
      rintro e w13 ⟨rfl, hL13⟩
      clear hL12
      go_wp2_with fail
      refine (add_l hL13 (v1 := u2) (v2 := u3) (by repeat (first | exact List.mem_cons_self | apply List.mem_cons_of_mem)) (by repeat (first | exact List.mem_cons_self | apply List.mem_cons_of_mem)) (by decide) (by decide)).mono ?_
      rintro e w14 ⟨u14, rfl, hL14⟩
      clear hL13
      go_wp2_with fail
      refine (cmp_l hL14 (v1 := u14) (v2 := u2) (by repeat (first | exact List.mem_cons_self | apply List.mem_cons_of_mem)) (by repeat (first | exact List.mem_cons_self | apply List.mem_cons_of_mem)) (by decide) (by decide)).mono ?_
      rintro e w15 ⟨rfl, hL15⟩
      clear hL14
      have hge : 0 ≤ cmpV ((X + Y : Nat) : Int) (X : Int) := by rcases cmpV_cases ((X + Y : Nat) : Int) (X : Int) with h | h | h <;> omega
      generalize cmpV ((X + Y : Nat) : Int) (X : Int) = gg at hge ⊢
      rcases Nat.eq_zero_or_pos Z with rfl | hZ
      · go_wp2_with fail
        refine (bits_l hL15 (v1 := u4) (by repeat (first | exact List.mem_cons_self | apply List.mem_cons_of_mem)) (by decide)).mono ?_
        rintro e w' ⟨rfl, rfl⟩
        rw [blen_zero]
        go_wp2
        go_ret
        exact ⟨rfl, hL15.below⟩
      · have hbl := blen_pos hZ
        have hbits := bits_l hL15 (v1 := u4) (by repeat (first | exact List.mem_cons_self | apply List.mem_cons_of_mem)) (by decide)
        generalize blen Z = bl at hbl hbits
        have hbl' : ((bl : Int) == 0) = false := by simp; omega
        replace hbits := Lib.hid hbits
        go_wp2_with fail
        refine (hbits.out).mono ?_
        rintro e w' ⟨rfl, rfl⟩
        clear hbits
        go_wp2_with fail
        refine (mul_l hL15 (v1 := u2) (v2 := u4) (by repeat (first | exact List.mem_cons_self | apply List.mem_cons_of_mem)) (by repeat (first | exact List.mem_cons_self | apply List.mem_cons_of_mem)) (by decide) (by decide)).mono ?_
        rintro e w16 ⟨u16, rfl, hL16⟩
        clear hL15
        go_wp2_with fail
        refine (mul_l hL16 (v1 := u3) (v2 := u4) (by repeat (first | exact List.mem_cons_self | apply List.mem_cons_of_mem)) (by repeat (first | exact List.mem_cons_self | apply List.mem_cons_of_mem)) (by decide) (by decide)).mono ?_
        rintro e w17 ⟨u17, rfl, hL17⟩
        clear hL16
        go_wp2_with fail
        refine (cmp_is (p) hL17 (v1 := u16) (v2 := u17) (by repeat (first | exact List.mem_cons_self | apply List.mem_cons_of_mem)) (by repeat (first | exact List.mem_cons_self | apply List.mem_cons_of_mem)) (by decide) (by decide) (by rw [cmpV_mulr _ _ hZ]; exact hp.out)).mono ?_
        rintro e w18 ⟨rfl, hL18⟩
        clear hL17
        go_wp2_with fail
        refine (cmp_is (p) hL18 (v1 := u2) (v2 := u3) (by repeat (first | exact List.mem_cons_self | apply List.mem_cons_of_mem)) (by repeat (first | exact List.mem_cons_self | apply List.mem_cons_of_mem)) (by decide) (by decide) (hp.out)).mono ?_
        rintro e w19 ⟨rfl, hL19⟩
        clear hL18
        go_wp2
        go_ret
        exact ⟨rfl, hL19.below⟩
  · clear hpr
    go_wp2_with fail
    refine (add_l hL8 (v1 := u2) (v2 := u4) (by repeat (first | exact List.mem_cons_self | apply List.mem_cons_of_mem)) (by repeat (first | exact List.mem_cons_self | apply List.mem_cons_of_mem)) (by decide) (by decide)).mono ?_
    rintro e w9 ⟨u9, rfl, hL9⟩
    clear hL8
    go_wp2_with fail
    refine (add_l hL9 (v1 := u3) (v2 := u4) (by repeat (first | exact List.mem_cons_self | apply List.mem_cons_of_mem)) (by repeat (first | exact List.mem_cons_self | apply List.mem_cons_of_mem)) (by decide) (by decide)).mono ?_
    rintro e w10 ⟨u10, rfl, hL10⟩
    clear hL9
    go_wp2_with fail
    refine (cmp_is (p) hL10 (v1 := u9) (v2 := u10) (by repeat (first | exact List.mem_cons_self | apply List.mem_cons_of_mem)) (by repeat (first | exact List.mem_cons_self | apply List.mem_cons_of_mem)) (by decide) (by decide) (by rw [cmpV_addr]; exact hp.out)).mono ?_
    rintro e w11 ⟨rfl, hL11⟩
    clear hL10
    go_wp2_with fail
    refine (cmp_is (p) hL11 (v1 := u2) (v2 := u3) (by repeat (first | exact List.mem_cons_self | apply List.mem_cons_of_mem)) (by repeat (first | exact List.mem_cons_self | apply List.mem_cons_of_mem)) (by decide) (by decide) (hp.out)).mono ?_
    rintro e w12 ⟨rfl, hL12⟩
    clear hL11
    go_wp2_with fail
    refine (add_l hL12 (v1 := u2) (v2 := u3) (by repeat (first | exact List.mem_cons_self | apply List.mem_cons_of_mem)) (by repeat (first | exact List.mem_cons_self | apply List.mem_cons_of_mem)) (by decide) (by decide)).mono ?_
    rintro e w13 ⟨u13, rfl, hL13⟩
    clear hL12
    go_wp2_with fail
    refine (cmp_l hL13 (v1 := u13) (v2 := u2) (by repeat (first | exact List.mem_cons_self | apply List.mem_cons_of_mem)) (by repeat (first | exact List.mem_cons_self | apply List.mem_cons_of_mem)) (by decide) (by decide)).mono ?_
    rintro e w14 ⟨rfl, hL14⟩
    clear hL13
    have hge : 0 ≤ cmpV ((X + Y : Nat) : Int) (X : Int) := by rcases cmpV_cases ((X + Y : Nat) : Int) (X : Int) with h | h | h <;> omega
    generalize cmpV ((X + Y : Nat) : Int) (X : Int) = gg at hge ⊢
    rcases Nat.eq_zero_or_pos Z with rfl | hZ
    · go_wp2_with fail
      refine (bits_l hL14 (v1 := u4) (by repeat (first | exact List.mem_cons_self | apply List.mem_cons_of_mem)) (by decide)).mono ?_
      rintro e w' ⟨rfl, rfl⟩
      rw [blen_zero]
      go_wp2
      go_ret
      exact ⟨rfl, hL14.below⟩
    · have hbl := blen_pos hZ
      have hbits := bits_l hL14 (v1 := u4) (by repeat (first | exact List.mem_cons_self | apply List.mem_cons_of_mem)) (by decide)
      generalize blen Z = bl at hbl hbits
      have hbl' : ((bl : Int) == 0) = false := by simp; omega
      replace hbits := Lib.hid hbits
      go_wp2_with fail
      refine (hbits.out).mono ?_
      rintro e w' ⟨rfl, rfl⟩
      clear hbits
      go_wp2_with fail
      refine (mul_l hL14 (v1 := u2) (v2 := u4) (by repeat (first | exact List.mem_cons_self | apply List.mem_cons_of_mem)) (by repeat (first | exact List.mem_cons_self | apply List.mem_cons_of_mem)) (by decide) (by decide)).mono ?_
      rintro e w15 ⟨u15, rfl, hL15⟩
      clear hL14
      go_wp2_with fail
      refine (mul_l hL15 (v1 := u3) (v2 := u4) (by repeat (first | exact List.mem_cons_self | apply List.mem_cons_of_mem)) (by repeat (first | exact List.mem_cons_self | apply List.mem_cons_of_mem)) (by decide) (by decide)).mono ?_
      rintro e w16 ⟨u16, rfl, hL16⟩
      clear hL15
      go_wp2_with fail
      refine (cmp_is (p) hL16 (v1 := u15) (v2 := u16) (by repeat (first | exact List.mem_cons_self | apply List.mem_cons_of_mem)) (by repeat (first | exact List.mem_cons_self | apply List.mem_cons_of_mem)) (by decide) (by decide) (by rw [cmpV_mulr _ _ hZ]; exact hp.out)).mono ?_
      rintro e w17 ⟨rfl, hL17⟩
      clear hL16
      go_wp2_with fail
      refine (cmp_is (p) hL17 (v1 := u2) (v2 := u3) (by repeat (first | exact List.mem_cons_self | apply List.mem_cons_of_mem)) (by repeat (first | exact List.mem_cons_self | apply List.mem_cons_of_mem)) (by decide) (by decide) (hp.out)).mono ?_
      rintro e w18 ⟨rfl, hL18⟩
      clear hL17
      go_wp2
      go_ret
      exact ⟨rfl, hL18.below⟩
end Go.Proofs.YtdclphnakdmgjaaDoor
