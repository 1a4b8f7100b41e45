/- The document's answer for chapter 2: powers of five, a number as a numerator and a denominator, the order. Conditions: powers within some thousands. -/
/- The document's answer for chapter 2: a number as a numerator and a denominator; the order; walked. Conditions: powers within some thousands. -/
import Derived.Test.YtncfbleeidjflaaGreatDoorTx15
import Derived.Test.YtncfbleeidjflaaGreatDoorTx01
import Derived.Deep.RegionHeld3
import Derived.Test.YtncfbleeidjflaaGreatDoorTx19
namespace Go.Proofs.YtncfbleeidjflaaGreatDoor
open Go.RowKit Go.Cal
theorem five_fits (n : Nat) : 5 ^ n < 4294967296 ^ (n + 1) := by
  have h1 : 5 ^ n ≤ 4294967296 ^ n := Nat.pow_le_pow_left (by decide) n
  have h2 : 4294967296 ^ n < 4294967296 ^ (n + 1) := Nat.pow_lt_pow_right (by decide) (Nat.lt_succ_self n)
  exact Nat.lt_of_le_of_lt h1 h2
theorem TellsH.fit {w : World} {k k' N : Nat} {e : Ending} {w' : World} (h : TellsH w k N e w') (hk : N < 4294967296 ^ k') : TellsH w k' N e w' := by
  obtain ⟨v, h1, h2, h3, h4⟩ := h
  exact ⟨v, h1, IsH.fit h2 hk, h3, h4⟩
theorem isH_one (w : World) (L : List Nat) (cs : Array Value) (N : Nat) (hcs : cs = (lU L).toArray) (hd : L.all (· < 4294967296) = true) (ht : Top L) (hk : L.length = 1) (hv : vl 4294967296 L = N) : IsH (w.alloc (.cells cs 22)) (.slice (some ⟨w.heap.size, 0, none⟩) 1 1) 1 N :=
  IsH.lit w L cs 1 N hcs hd ht hk (by decide) hv
set_option maxRecDepth 100000 in
set_option maxHeartbeats 4000000 in
theorem fives_none (n : Int) (hn : n ≤ 0) (w : World) : Calls Tryz.prog 130 #[.int .i64 n] w (TellsH w 1 1) := by
  have hL := isH_one w [1] #[.int .u64 1] 1 rfl (by decide) (fun _ => by simp) rfl (by decide)
  go_enter Tryz.func130, Tryz.ntmps130
  go_wp2
  go_ret
  exact ⟨_, rfl, hL, (Below.refl _ _).alloc (Nat.le_refl _) _, fun A n c e a ha => by injection e with e1 e2 e3; subst e1; injection ha with ha; subst ha; exact Nat.le_refl _⟩
set_option maxRecDepth 100000 in
set_option maxHeartbeats 4000000 in
theorem fives_any : ∀ (n : Nat), n ≤ 20000 → ∀ w, Calls Tryz.prog 130 #[.int .i64 n] w (TellsH w (n + 1) (5 ^ n)) := by
  intro n
  induction n using Nat.strongRecOn with
  | ind n ih =>
    intro hn w
    rcases Nat.eq_zero_or_pos n with rfl | h0
    · exact fives_none _ (Int.le_refl _) w
    · have ihh := ih (n / 2) (by omega) (by omega) w
      have hni : ¬ (n : Int) ≤ 0 := by omega
      have hdv : (n : Int) / 2 = ((n / 2 : Nat) : Int) := by omega
      obtain ⟨h, hh⟩ : ∃ h, n / 2 = h := ⟨_, rfl⟩
      rw [hh] at ihh hdv
      replace ihh := Lib.hid ihh
      clear ih
      have hfit := five_fits n
      go_enter Tryz.func130, Tryz.ntmps130
      go_wp2_with fail
      refine ihh.out.mono ?_
      rintro e w1 ⟨v, rfl, hv, hb, hnw⟩
      have hL := ((LiveP.start w).go hb).put (pH_st _ _ _) hv
      clear hb hv hnw
      go_wp2_with fail
      refine (times_any w1 (hL.get (P := pH v (h + 1) (5 ^ h)) (by repeat (first | exact List.mem_cons_self | apply List.mem_cons_of_mem))) (hL.get (P := pH v (h + 1) (5 ^ h)) (by repeat (first | exact List.mem_cons_self | apply List.mem_cons_of_mem))) (by omega) (by omega)).mono ?_
      rintro e w2 ⟨v2, rfl, hv, hb, hnw⟩
      have hnw2 : New w v2 := fun A n c he a ha => Nat.le_trans hL.size (hnw A n c he a ha)
      replace hL := (hL.go hb).put (pH_st _ _ _) hv
      clear hb hv hnw
      by_cases hpar : n % 2 = 1
      · have hpi : (n : Int) % 2 = 1 := by omega
        have hpw : 5 ^ h * 5 ^ h * 5 = 5 ^ n := by rw [← Nat.pow_add, ← Nat.pow_succ]; congr 1; omega
        have hlit := isH_one w2 [5] #[.int .u64 5] 5 rfl (by decide) (fun _ => by simp) rfl (by decide)
        replace hL := (hL.go ((Below.refl _ _).alloc (Nat.le_refl _) (.cells #[.int .u64 5] 22))).put (pH_st _ _ _) hlit
        clear hlit
        go_wp2_with fail
        refine (times_any _ (hL.get (P := pH v2 (h + 1 + (h + 1)) (5 ^ h * 5 ^ h)) (by repeat (first | exact List.mem_cons_self | apply List.mem_cons_of_mem))) (hL.get (P := pH (.slice (some ⟨w2.heap.size, 0, none⟩) 1 1) 1 5) (by repeat (first | exact List.mem_cons_self | apply List.mem_cons_of_mem))) (by omega) (by omega)).mono ?_
        rintro e w3 ⟨v3, rfl, hv, hb, hnw⟩
        have hnw3 : New w v3 := fun A n c he a ha => Nat.le_trans hL.size (hnw A n c he a ha)
        rw [hpw] at hv
        replace hL := hL.go hb
        clear hb hnw
        go_wp2
        go_ret
        exact ⟨_, rfl, IsH.fit hv hfit, hL.below, hnw3⟩
      · have hpi : (n : Int) % 2 = 0 := by omega
        have hpw : 5 ^ h * 5 ^ h = 5 ^ n := by rw [← Nat.pow_add]; congr 1; omega
        have hv := hL.get (P := pH v2 (h + 1 + (h + 1)) (5 ^ h * 5 ^ h)) (by repeat (first | exact List.mem_cons_self | apply List.mem_cons_of_mem))
        rw [hpw] at hv
        go_wp2
        go_ret
        exact ⟨_, rfl, IsH.fit hv hfit, hL.below, hnw2⟩
theorem two_fits (T : Nat) : 2 ^ T ≤ 4294967296 ^ T := Nat.pow_le_pow_left (by decide) T
theorem exP_fits {k N : Nat} (hN : N < 18446744073709551616 ^ k) (F T : Nat) : N * 5 ^ F * 2 ^ T < 4294967296 ^ (2 * k + (F + 1) + T) := by
  have h1 : 18446744073709551616 ^ k = 4294967296 ^ (2 * k) := by rw [Nat.pow_mul]
  rw [h1] at hN
  rw [Nat.pow_add, Nat.pow_add]
  exact Nat.mul_lt_mul_of_lt_of_le (Nat.mul_lt_mul'' hN (five_fits F)) (two_fits T) (Nat.pow_pos (by decide))
theorem exQ_fits (G U : Nat) : 5 ^ G * 2 ^ U < 4294967296 ^ ((G + 1) + U) := by
  rw [Nat.pow_add]
  exact Nat.mul_lt_mul_of_lt_of_le (five_fits G) (two_fits U) (Nat.pow_pos (by decide))
theorem fives_int (n : Int) (m : Nat) (h : n.toNat = m) (hm : m ≤ 20000) (w : World) : Calls Tryz.prog 130 #[.int .i64 n] w (TellsH w (m + 1) (5 ^ m)) := by
  subst h
  rcases Int.le_total 0 n with h0 | h0
  · have := fives_any n.toNat hm w
    rwa [Int.toNat_of_nonneg h0] at this
  · have := fives_none n h0 w
    rw [show n.toNat = 0 by omega]
    exact this
end Go.Proofs.YtncfbleeidjflaaGreatDoor
namespace Go.Proofs.YtncfbleeidjflaaGreatDoor
open Go.RowKit Go.Cal
/-- The box of a number, as it stands. -/
structure PaS (w : World) (b : Nat) (d : Value) (two five : Int) (k N : Nat) (W : World) : Prop where
  bel : Below w.heap.size w W
  lt : b < W.heap.size
  c1 : W.cell? ⟨b, 1, none⟩ = some d
  c2 : W.cell? ⟨b, 2, none⟩ = some (.int .i64 two)
  c3 : W.cell? ⟨b, 3, none⟩ = some (.int .i64 five)
  num : IsN W d k N
theorem PaS.keep {w : World} {b : Nat} {d : Value} {two five : Int} {k N : Nat} {W W' : World} (h : PaS w b d two five k N W) (hb : Below W.heap.size W W') : PaS w b d two five k N W' :=
  ⟨h.bel.trans (hb.mono h.bel.size), Nat.lt_of_lt_of_le h.lt hb.size, (hb.cell (p := ⟨b, 1, none⟩) h.lt).trans h.c1, (hb.cell (p := ⟨b, 2, none⟩) h.lt).trans h.c2, (hb.cell (p := ⟨b, 3, none⟩) h.lt).trans h.c3, h.num.below hb⟩
theorem PaS.made (w : World) (ng : Bool) (d : Value) (two five : Int) {k N : Nat} (h : IsN w d k N) : PaS w w.heap.size d two five k N (w.alloc (.cells #[.bool ng, d, .int .i64 two, .int .i64 five] 71)) := by
  have hp := pBlk_made w #[.bool ng, d, .int .i64 two, .int .i64 five] 71
  have hb := (Below.refl w.heap.size w).alloc (Nat.le_refl _) (.cells #[.bool ng, d, .int .i64 two, .int .i64 five] 71)
  exact ⟨hb, hp.lt, hp.cell 1 _ rfl, hp.cell 2 _ rfl, hp.cell 3 _ rfl, h.below hb⟩
set_option maxRecDepth 100000 in
set_option maxHeartbeats 4000000 in
theorem parts_any (ng : Bool) {d : Value} {k N : Nat} (two five : Int) (w : World) (h : IsN w d k N) (hk : k ≤ 10000) (h2 : -20000 ≤ two ∧ two ≤ 20000) (h5 : -10000 ≤ five ∧ five ≤ 10000) :
    Calls Tryz.prog 58 #[.agg #[.bool ng, d, .int .i64 two, .int .i64 five]] w fun e w' => ∃ p q kp kq, e = .returned (.tuple #[p, q]) ∧ pH p kp (exP N two five) w' ∧ pH q kq (exQ two five) w' ∧ kp ≤ 60000 ∧ kq ≤ 60000 ∧ Below w.heap.size w w' := by
  obtain ⟨F, hF⟩ : ∃ F : Nat, five.toNat = F := ⟨_, rfl⟩
  obtain ⟨G, hG⟩ : ∃ G : Nat, (-five).toNat = G := ⟨_, rfl⟩
  obtain ⟨T, hT⟩ : ∃ T : Nat, max two 0 = (T : Int) := ⟨(max two 0).toNat, by omega⟩
  obtain ⟨U, hU⟩ : ∃ U : Nat, max (-two) 0 = (U : Int) := ⟨(max (-two) 0).toNat, by omega⟩
  have hfv := Lib.hid fun w => fives_int five F hF (by omega) w
  have hfw := Lib.hid fun w => fives_int (-five) G hG (by omega) w
  have hS0 := PaS.made w ng d two five h
  have hTb : T ≤ 20000 := by omega
  have hUb : U ≤ 20000 := by omega
  have hFb : F ≤ 10000 := by omega
  have hGb : G ≤ 10000 := by omega
  have hP : exP N two five = N * 5 ^ F * 2 ^ T := by unfold exP; rw [hF, show two.toNat = T by omega]
  have hQ : exQ two five = 5 ^ G * 2 ^ U := by unfold exQ; rw [hG, show (-two).toNat = U by omega]
  have hfit1 : N * 5 ^ F * 2 ^ T < 4294967296 ^ (2 * k + (F + 1) + T) := exP_fits h.lt F T
  have hfit2 : 5 ^ G * 2 ^ U < 4294967296 ^ ((G + 1) + U) := exQ_fits G U
  have hn5 : IntKind.i64.wrap (-five) = -five := by rw [IntKind.wrap_i64]; omega
  have hn2 : IntKind.i64.wrap (-two) = -two := by rw [IntKind.wrap_i64]; omega
  clear h hF hG
  replace hP := Lib.hid hP
  replace hQ := Lib.hid hQ
  replace hfit1 := Lib.hid hfit1
  replace hfit2 := Lib.hid hfit2
  go_enter Tryz.func58, Tryz.ntmps58
  go_wp2_with fail
  refine wp_region_held_drew (S := PaS w w.heap.size d two five k N) (by kernel_rfl) (hS0.keep (Below.refl _ _).drew) (fun hS => ?_)
  (refine wpAnyH_take (i := 0) (v := ?_) rfl (by kernel_rfl) (by kernel_rfl) (by kernel_rfl) (fun _ _ _ h => h) (Or.inl ⟨by rfl, ?_⟩) hS ?_; rotate_left; (focus ((intro W9 hSW; have hx1 := hSW.c1; have hx2 := hSW.c2; have hx3 := hSW.c3; have hl1 := hSW.lt; go_simp) <;> with_reducible rfl)))
  (refine wpAnyH_take (i := 1) (v := ?_) rfl (by kernel_rfl) (by kernel_rfl) (by kernel_rfl) (fun _ _ _ h => h) (Or.inl ⟨by rfl, ?_⟩) hS ?_; rotate_left; (focus ((intro W9 hSW; have hx1 := hSW.c1; have hx2 := hSW.c2; have hx3 := hSW.c3; have hl1 := hSW.lt; go_simp) <;> with_reducible rfl)))
  (refine wpAnyH_take (i := 3) (v := ?_) rfl (by kernel_rfl) (by kernel_rfl) (by kernel_rfl) (fun _ _ _ h => h) (Or.inl ⟨by rfl, ?_⟩) hS ?_; rotate_left; (focus ((intro W9 hSW; have hx1 := hSW.c1; have hx2 := hSW.c2; have hx3 := hSW.c3; have hl1 := hSW.lt; go_simp) <;> with_reducible rfl)))
  (refine wpAnyH_take (i := 4) (v := ?_) rfl (by kernel_rfl) (by kernel_rfl) (by kernel_rfl) (fun _ _ _ h => h) (Or.inl ⟨by rfl, ?_⟩) hS ?_; rotate_left; (focus ((intro W9 hSW; have hx1 := hSW.c1; have hx2 := hSW.c2; have hx3 := hSW.c3; have hl1 := hSW.lt; go_simp) <;> with_reducible rfl)))
  (refine wpAnyH_take (i := 7) (v := ?_) rfl (by kernel_rfl) (by kernel_rfl) (by kernel_rfl) (fun _ _ _ h => h) (Or.inl ⟨by rfl, ?_⟩) hS ?_; rotate_left; (focus ((intro W9 hSW; have hx1 := hSW.c1; have hx2 := hSW.c2; have hx3 := hSW.c3; have hl1 := hSW.lt; go_simp) <;> with_reducible rfl)))
  (refine wpAnyH_take (i := 8) (v := ?_) rfl (by kernel_rfl) (by kernel_rfl) (by kernel_rfl) (fun _ _ _ h => h) (Or.inl ⟨by rfl, ?_⟩) hS ?_; rotate_left; (focus ((intro W9 hSW; have hx1 := hSW.c1; have hx2 := hSW.c2; have hx3 := hSW.c3; have hl1 := hSW.lt; go_simp) <;> with_reducible rfl)))
  (refine wpAnyH_take (i := 9) (v := ?_) rfl (by kernel_rfl) (by kernel_rfl) (by kernel_rfl) (fun _ _ _ h => h) (Or.inl ⟨by rfl, ?_⟩) hS ?_; rotate_left; (focus ((intro W9 hSW; have hx1 := hSW.c1; have hx2 := hSW.c2; have hx3 := hSW.c3; have hl1 := hSW.lt; go_simp) <;> with_reducible rfl)))
  (refine wpAnyH_ready (rs := [2]) (by kernel_rfl) (by simp) ?_; refine AllReadyH.cons rfl (fun K hK => ?_) AllReadyH.nil)
  go_simp
  go_at_call 51
  refine Calls.mono (halves_any _ hS.num (by omega)) ?_
  rintro e w1 ⟨v1, rfl, hv1, hb1, -⟩
  refine hK.out _ _ (hS.keep hb1) (fun hS => ?_)
  (refine wpAnyH_ready (rs := [5]) (by kernel_rfl) (by simp) ?_; refine AllReadyH.cons rfl (fun K hK => ?_) AllReadyH.nil)
  go_simp
  go_at_call 130
  refine Calls.mono (hfv.out _) ?_
  rintro e w2 ⟨v2, rfl, hv2, hb2, -⟩
  refine hK.out _ _ (hS.keep hb2) (fun hS => ?_)
  (refine wpAnyH_ready (rs := [6]) (by kernel_rfl) (by simp) ?_; refine AllReadyH.cons rfl (fun K hK => ?_) AllReadyH.nil)
  go_simp
  go_at_call 126
  refine Calls.mono (times_any _ (IsH.below hv1 hb2) hv2 (by omega) (by omega)) ?_
  rintro e w3 ⟨v3, rfl, hv3, hb3, -⟩
  refine hK.out _ _ (hS.keep hb3) (fun hS => ?_)
  (refine wpAnyH_ready (rs := [10]) (by kernel_rfl) (by simp) ?_; refine AllReadyH.cons rfl (fun K hK => ?_) AllReadyH.nil)
  go_simp
  go_at_call 129
  refine Calls.mono (up_any T (2 * k + (F + 1) + T) _ hv3 (by omega) (by omega) hfit1.out) ?_
  rintro e w4 ⟨v4, rfl, hv4, hb4, -⟩
  refine hK.out _ _ (hS.keep hb4) (fun hS => ?_)
  (refine wpAnyH_take (i := 11) (v := ?_) rfl (by kernel_rfl) (by kernel_rfl) (by kernel_rfl) (fun _ _ _ h => h) (Or.inl ⟨by rfl, ?_⟩) hS ?_; rotate_left; (focus ((intro W9 hSW; have hx1 := hSW.c1; have hx2 := hSW.c2; have hx3 := hSW.c3; have hl1 := hSW.lt; go_simp) <;> with_reducible rfl)))
  refine wpAnyH_done (by kernel_rfl) ?_ _
  clear hb1 hb2 hb3 hb4 hv1 hv2 hv3 hfv hS0
  go_wp2_with fail
  refine wp_region_held_drew (S := PaS w w.heap.size d two five k N) (by kernel_rfl) (hS.keep (Below.refl _ _).drew) (fun hS => ?_)
  (refine wpAnyH_take (i := 0) (v := ?_) rfl (by kernel_rfl) (by kernel_rfl) (by kernel_rfl) (fun _ _ _ h => h) (Or.inl ⟨by rfl, ?_⟩) hS ?_; rotate_left; (focus ((intro W9 hSW; have hx1 := hSW.c1; have hx2 := hSW.c2; have hx3 := hSW.c3; have hl1 := hSW.lt; go_simp) <;> with_reducible rfl)))
  (refine wpAnyH_take (i := 1) (v := ?_) rfl (by kernel_rfl) (by kernel_rfl) (by kernel_rfl) (fun _ _ _ h => h) (Or.inl ⟨by rfl, ?_⟩) hS ?_; rotate_left; (focus ((intro W9 hSW; have hx1 := hSW.c1; have hx2 := hSW.c2; have hx3 := hSW.c3; have hl1 := hSW.lt; go_simp) <;> with_reducible rfl)))
  (refine wpAnyH_take (i := 2) (v := ?_) rfl (by kernel_rfl) (by kernel_rfl) (by kernel_rfl) (fun _ _ _ h => h) (Or.inl ⟨by rfl, ?_⟩) hS ?_; rotate_left; (focus ((intro W9 hSW; have hx1 := hSW.c1; have hx2 := hSW.c2; have hx3 := hSW.c3; have hl1 := hSW.lt; go_simp) <;> with_reducible rfl)))
  (refine wpAnyH_take (i := 3) (v := ?_) rfl (by kernel_rfl) (by kernel_rfl) (by kernel_rfl) (fun _ _ _ h => h) (Or.inl ⟨by rfl, ?_⟩) hS ?_; rotate_left; (focus ((intro W9 hSW; have hx1 := hSW.c1; have hx2 := hSW.c2; have hx3 := hSW.c3; have hl1 := hSW.lt; go_simp) <;> with_reducible rfl)))
  (refine wpAnyH_take (i := 5) (v := ?_) rfl (by kernel_rfl) (by kernel_rfl) (by kernel_rfl) (fun _ _ _ h => h) (Or.inl ⟨by rfl, ?_⟩) hS ?_; rotate_left; (focus ((intro W9 hSW; have hx1 := hSW.c1; have hx2 := hSW.c2; have hx3 := hSW.c3; have hl1 := hSW.lt; go_simp) <;> with_reducible rfl)))
  (refine wpAnyH_take (i := 6) (v := ?_) rfl (by kernel_rfl) (by kernel_rfl) (by kernel_rfl) (fun _ _ _ h => h) (Or.inl ⟨by rfl, ?_⟩) hS ?_; rotate_left; (focus ((intro W9 hSW; have hx1 := hSW.c1; have hx2 := hSW.c2; have hx3 := hSW.c3; have hl1 := hSW.lt; go_simp) <;> with_reducible rfl)))
  (refine wpAnyH_take (i := 7) (v := ?_) rfl (by kernel_rfl) (by kernel_rfl) (by kernel_rfl) (fun _ _ _ h => h) (Or.inl ⟨by rfl, ?_⟩) hS ?_; rotate_left; (focus ((intro W9 hSW; have hx1 := hSW.c1; have hx2 := hSW.c2; have hx3 := hSW.c3; have hl1 := hSW.lt; go_simp) <;> with_reducible rfl)))
  (refine wpAnyH_take (i := 8) (v := ?_) rfl (by kernel_rfl) (by kernel_rfl) (by kernel_rfl) (fun _ _ _ h => h) (Or.inl ⟨by rfl, ?_⟩) hS ?_; rotate_left; (focus ((intro W9 hSW; have hx1 := hSW.c1; have hx2 := hSW.c2; have hx3 := hSW.c3; have hl1 := hSW.lt; go_simp) <;> with_reducible rfl)))
  (refine wpAnyH_ready (rs := [4]) (by kernel_rfl) (by simp) ?_; refine AllReadyH.cons rfl (fun K hK => ?_) AllReadyH.nil)
  go_simp
  go_at_call 130
  refine Calls.mono (hfw.out _) ?_
  rintro e w5 ⟨v5, rfl, hv5, hb5, -⟩
  refine hK.out _ _ (hS.keep hb5) (fun hS => ?_)
  (refine wpAnyH_ready (rs := [9]) (by kernel_rfl) (by simp) ?_; refine AllReadyH.cons rfl (fun K hK => ?_) AllReadyH.nil)
  go_simp
  go_at_call 129
  refine Calls.mono (up_any U ((G + 1) + U) _ hv5 (by omega) (by omega) hfit2.out) ?_
  rintro e w6 ⟨v6, rfl, hv6, hb6, -⟩
  refine hK.out _ _ (hS.keep hb6) (fun hS => ?_)
  (refine wpAnyH_take (i := 10) (v := ?_) rfl (by kernel_rfl) (by kernel_rfl) (by kernel_rfl) (fun _ _ _ h => h) (Or.inl ⟨by rfl, ?_⟩) hS ?_; rotate_left; (focus ((intro W9 hSW; have hx1 := hSW.c1; have hx2 := hSW.c2; have hx3 := hSW.c3; have hl1 := hSW.lt; go_simp) <;> with_reducible rfl)))
  (refine wpAnyH_take (i := 11) (v := ?_) rfl (by kernel_rfl) (by kernel_rfl) (by kernel_rfl) (fun _ _ _ h => h) (Or.inl ⟨by rfl, ?_⟩) hS ?_; rotate_left; (focus ((intro W9 hSW; have hx1 := hSW.c1; have hx2 := hSW.c2; have hx3 := hSW.c3; have hl1 := hSW.lt; go_simp) <;> with_reducible rfl)))
  refine wpAnyH_done (by kernel_rfl) ?_ _
  have hfin := hS.bel
  go_wp2
  go_ret2
  rw [hP.out, hQ.out]
  exact ⟨v4, v6, _, _, rfl, IsH.below hv4 ((Below.refl _ _).drew.trans (hb5.trans (hb6.mono hb5.size))), hv6, by omega, by omega, hfin⟩
set_option maxRecDepth 100000 in
set_option maxHeartbeats 4000000 in
theorem rcmp2_any (ng1 ng2 : Bool) {d1 d2 : Value} {k1 k2 N1 N2 : Nat} (t1 f1 t2 f2 : Int) (w : World) (h1 : IsN w d1 k1 N1) (h2 : IsN w d2 k2 N2) (b1 : k1 ≤ 10000) (b2 : k2 ≤ 10000)
    (ht1 : -20000 ≤ t1 ∧ t1 ≤ 20000) (hf1 : -10000 ≤ f1 ∧ f1 ≤ 10000) (ht2 : -20000 ≤ t2 ∧ t2 ≤ 20000) (hf2 : -10000 ≤ f2 ∧ f2 ≤ 10000) :
    Calls Tryz.prog 54 #[.agg #[.bool ng1, d1, .int .i64 t1, .int .i64 f1], .agg #[.bool ng2, d2, .int .i64 t2, .int .i64 f2]] w fun e w' => e = .returned (.int .i64 (exC N1 t1 f1 N2 t2 f2)) ∧ Below w.heap.size w w' := by
  have hp1 := Lib.hid fun (W : World) (hb : Below w.heap.size w W) => parts_any ng1 t1 f1 W (h1.below hb) b1 ht1 hf1
  have hp2 := Lib.hid fun (W : World) (hb : Below w.heap.size w W) => parts_any ng2 t2 f2 W (h2.below hb) b2 ht2 hf2
  have hba := (Below.refl w.heap.size w).alloc (Nat.le_refl _) (.cells #[.bool ng1, d1, .int .i64 t1, .int .i64 f1] 71)
  have hbb := hba.alloc (by simp) (.cells #[.bool ng2, d2, .int .i64 t2, .int .i64 f2] 71)
  have pB := pBlk_made (w.alloc (.cells #[.bool ng1, d1, .int .i64 t1, .int .i64 f1] 71)) #[.bool ng2, d2, .int .i64 t2, .int .i64 f2] 71
  rw [show (w.alloc (.cells #[.bool ng1, d1, .int .i64 t1, .int .i64 f1] 71)).heap.size = w.heap.size + 1 by simp] at pB
  clear hba h1 h2
  go_enter Tryz.func54, Tryz.ntmps54
  go_wp2_with fail
  refine (hp1.out _ hbb).mono ?_
  rintro e w1 ⟨p1, q1, kp1, kq1, rfl, hP1, hQ1, bp1, bq1, hb1⟩
  have hB1 := hbb.trans (hb1.mono hbb.size)
  have pB1 := pBlk_st _ _ _ _ _ pB hb1
  have z0 := pB1.cell 0 _ rfl
  have z1 := pB1.cell 1 _ rfl
  have z2 := pB1.cell 2 _ rfl
  have z3 := pB1.cell 3 _ rfl
  have zl := pB1.lt
  clear hp1 pB pB1
  go_wp2_with fail
  refine (hp2.out _ hB1).mono ?_
  rintro e w2 ⟨p2, q2, kp2, kq2, rfl, hP2, hQ2, bp2, bq2, hb2⟩
  have hB2 := hB1.trans (hb2.mono hB1.size)
  clear hp2 z0 z1 z2 z3 zl
  go_wp2_with fail
  refine (times_any _ (IsH.below hP1 hb2) hQ2 (by omega) (by omega)).mono ?_
  rintro e w3 ⟨v3, rfl, hv3, hb3, -⟩
  have hB3 := hB2.trans (hb3.mono hB2.size)
  go_wp2_with fail
  refine (times_any _ (IsH.below hP2 hb3) (IsH.below (IsH.below hQ1 hb2) hb3) (by omega) (by omega)).mono ?_
  rintro e w4 ⟨v4, rfl, hv4, hb4, -⟩
  have hB4 := hB3.trans (hb4.mono hB3.size)
  go_wp2_with fail
  refine (rcmp_any _ (IsH.below hv3 hb4) hv4 (by omega) (by omega)).mono ?_
  rintro e w5 ⟨rfl, rfl⟩
  go_wp2
  go_ret
  exact ⟨rfl, hB4⟩
end Go.Proofs.YtncfbleeidjflaaGreatDoor
