/- The law NatReckons, walked. Condition: the table of powers reads as it is laid. -/
import Derived.Test.YtniffclplmgcfaaGreatDoorRefK
namespace Go.Proofs.YtniffclplmgcfaaGreatDoor
open Go.RowKit Go.Cal
theorem rcmp_self {v1 v2 : Value} {k1 k2 X : Nat} (b1 : k1 ≤ 1048576) (b2 : k2 ≤ 1048576) (w : World) (h1 : IsH w v1 k1 X) (h2 : IsH w v2 k2 X) :
    Calls Tryz.prog 10 #[v1, v2] w fun e w' => e = .returned (.int .i64 0) ∧ w = w' :=
  (rcmp_any w h1 h2 b1 b2).mono fun e w' ⟨he, hw⟩ => ⟨he.trans (by rw [cmpV_eq rfl]), hw⟩
theorem rcmp_of {v1 v2 : Value} {k1 k2 X Y : Nat} {c : Int} (hc : Hid (cmpV (X : Int) (Y : Int) = c)) (w : World) (h1 : IsH w v1 k1 X) (h2 : IsH w v2 k2 Y) (b1 : k1 ≤ 1048576) (b2 : k2 ≤ 1048576) :
    Calls Tryz.prog 10 #[v1, v2] w fun e w' => e = .returned (.int .i64 c) ∧ w = w' :=
  (rcmp_any w h1 h2 b1 b2).mono fun e w' ⟨he, hw⟩ => ⟨he.trans (by rw [hc.out]), hw⟩
theorem cmp_of {w : World} {v1 v2 : Value} {k1 k2 X Y : Nat} {c : Int} (hc : Hid (cmpV (X : Int) (Y : Int) = c)) (h1 : IsN w v1 k1 X) (h2 : IsN w v2 k2 Y) (b1 : k1 ≤ 1048576) (b2 : k2 ≤ 1048576) :
    Calls Tryz.prog 17 #[v1, v2] w fun e w' => e = .returned (.int .i64 c) ∧ Below w.heap.size w w' :=
  (cmp_t h1 h2 b1 b2).mono fun e w' ⟨he, hw⟩ => ⟨he.trans (by rw [hc.out]), hw⟩
set_option maxRecDepth 100000 in
set_option maxHeartbeats 1000000 in
theorem natReckons_any (v1 v2 : Value) (w : World) (hT : Tab10 w) (ha1 : ArgN w v1) (ha2 : ArgN w v2) :
    Calls Tryz.prog 3 #[v1, v2] w fun e w' => e = .returned (.bool true) ∧ Below w.heap.size w w' := by
  go_enter Tryz.func3, Tryz.ntmps3
  have hL := LiveP.start w
  go_wp2_with fail; refine (shown_any w hT).mono ?_; rintro e w1 ⟨rfl, hb⟩; replace hL := hL.go hb; clear hb
  go_wp2_with fail; refine (few_t 30 hL.below ha1 (by decide) (by decide)).mono ?_; rintro e w1 ⟨a, X, rfl, hv, hb⟩; replace hL := (hL.go hb).put (pN_st _ _ _) hv; clear hb hv
  go_wp2_with fail; refine (few_t 30 hL.below ha2 (by decide) (by decide)).mono ?_; rintro e w1 ⟨b, Y, rfl, hv, hb⟩; replace hL := (hL.go hb).put (pN_st _ _ _) hv; clear hb hv
  go_wp2_with fail; refine (halves_any _ (hL.get (P := pN a 30 X) (by repeat (first | exact List.mem_cons_self | apply List.mem_cons_of_mem))) (by decide)).mono ?_; rintro e w1 ⟨x, rfl, hv, hb, -⟩; replace hL := (hL.go hb).put (pH_st _ _ _) hv; clear hb hv
  go_wp2_with fail; refine (halves_any _ (hL.get (P := pN b 30 Y) (by repeat (first | exact List.mem_cons_self | apply List.mem_cons_of_mem))) (by decide)).mono ?_; rintro e w1 ⟨y, rfl, hv, hb, -⟩; replace hL := (hL.go hb).put (pH_st _ _ _) hv; clear hb hv
  obtain ⟨yA, yc, yn, rfl, hy0, -⟩ := IsH.shape (hL.get (P := pH y (2 * 30) Y) (by repeat (first | exact List.mem_cons_self | apply List.mem_cons_of_mem)))
  rcases Nat.lt_or_ge X Y with hlt | hge
  · have hcv : cmpV (X : Int) (Y : Int) = -1 := cmpV_lt (by omega)
    have hY : 0 < Y := by omega
    have hyn : 0 < yn := hy0.2 hY
    replace hcv := Lib.hid hcv
    replace hY := Lib.hid hY
    replace hlt := Lib.hid hlt
    clear hy0
    · go_wp2_with fail; refine (rcmp_of hcv _ (hL.get (P := pH x (2 * 30) X) (by repeat (first | exact List.mem_cons_self | apply List.mem_cons_of_mem))) (hL.get (P := pH (.slice yA yn yc) (2 * 30) Y) (by repeat (first | exact List.mem_cons_self | apply List.mem_cons_of_mem))) (by decide) (by decide)).mono ?_; rintro e w' ⟨rfl, rfl⟩
      go_wp2_with fail; refine (sub_n (hL.get (P := pN a 30 X) (by repeat (first | exact List.mem_cons_self | apply List.mem_cons_of_mem))) (hL.get (P := pN b 30 Y) (by repeat (first | exact List.mem_cons_self | apply List.mem_cons_of_mem))) (by decide) (by decide) hlt.out).mono ?_; rintro e w1 ⟨rfl, hb⟩; replace hL := hL.go hb; clear hb
      go_wp2_with fail; refine (add_t (hL.get (P := pN a 30 X) (by repeat (first | exact List.mem_cons_self | apply List.mem_cons_of_mem))) (hL.get (P := pN b 30 Y) (by repeat (first | exact List.mem_cons_self | apply List.mem_cons_of_mem))) (by decide) (by decide)).mono ?_; rintro e w1 ⟨s, rfl, hv, hb⟩; replace hL := (hL.go hb).put (pT_st _ _ _) hv; clear hb hv
      go_wp2_with fail; refine (plus_h (hL.get (P := pH x (2 * 30) X) (by repeat (first | exact List.mem_cons_self | apply List.mem_cons_of_mem))) (hL.get (P := pH (.slice yA yn yc) (2 * 30) Y) (by repeat (first | exact List.mem_cons_self | apply List.mem_cons_of_mem))) (by decide) (by decide)).mono ?_; rintro e w1 ⟨s2, rfl, hv, hb, -⟩; replace hL := (hL.go hb).put (pH_st _ _ _) hv; clear hb hv
      go_wp2_with fail; refine (same_t _ (k1 := (max 30 30 + 1)) (k2 := (max (2 * 30) (2 * 30) + 1)) (N := X + Y) (hL.get (P := pT s (max 30 30 + 1) (X + Y)) (by repeat (first | exact List.mem_cons_self | apply List.mem_cons_of_mem))) (hL.get (P := pH s2 (max (2 * 30) (2 * 30) + 1) (X + Y)) (by repeat (first | exact List.mem_cons_self | apply List.mem_cons_of_mem))) (by decide) (by decide)).mono ?_; rintro e w1 ⟨rfl, hb⟩; replace hL := hL.go hb; clear hb
      go_wp2_with fail; refine (mul_t (hL.get (P := pN a 30 X) (by repeat (first | exact List.mem_cons_self | apply List.mem_cons_of_mem))) (hL.get (P := pN b 30 Y) (by repeat (first | exact List.mem_cons_self | apply List.mem_cons_of_mem))) (by decide) (by decide)).mono ?_; rintro e w1 ⟨m, rfl, hv, hb⟩; replace hL := (hL.go hb).put (pT_st _ _ _) hv; clear hb hv
      go_wp2_with fail; refine (times_any _ (hL.get (P := pH x (2 * 30) X) (by repeat (first | exact List.mem_cons_self | apply List.mem_cons_of_mem))) (hL.get (P := pH (.slice yA yn yc) (2 * 30) Y) (by repeat (first | exact List.mem_cons_self | apply List.mem_cons_of_mem))) (by decide) (by decide)).mono ?_; rintro e w1 ⟨m2, rfl, hv, hb, -⟩; replace hL := (hL.go hb).put (pH_st _ _ _) hv; clear hb hv
      go_wp2_with fail; refine (same_t _ (k1 := (30 + 30)) (k2 := (2 * 30 + 2 * 30)) (N := X * Y) (hL.get (P := pT m (30 + 30) (X * Y)) (by repeat (first | exact List.mem_cons_self | apply List.mem_cons_of_mem))) (hL.get (P := pH m2 (2 * 30 + 2 * 30) (X * Y)) (by repeat (first | exact List.mem_cons_self | apply List.mem_cons_of_mem))) (by decide) (by decide)).mono ?_; rintro e w1 ⟨rfl, hb⟩; replace hL := hL.go hb; clear hb
      go_wp2_with fail; refine (cmp_of hcv (hL.get (P := pN a 30 X) (by repeat (first | exact List.mem_cons_self | apply List.mem_cons_of_mem))) (hL.get (P := pN b 30 Y) (by repeat (first | exact List.mem_cons_self | apply List.mem_cons_of_mem))) (by decide) (by decide)).mono ?_; rintro e w1 ⟨rfl, hb⟩; replace hL := hL.go hb; clear hb
      go_wp2_with fail; refine (div_t (hL.get (P := pN a 30 X) (by repeat (first | exact List.mem_cons_self | apply List.mem_cons_of_mem))) (hL.get (P := pN b 30 Y) (by repeat (first | exact List.mem_cons_self | apply List.mem_cons_of_mem))) (by decide) (by decide) hY.out).mono ?_; rintro e w1 ⟨q, r, rfl, hv, hv2, hb⟩; replace hL := ((hL.go hb).put (pT_st _ _ _) hv).put (pT_st _ _ _) hv2; clear hb hv hv2
      go_wp2_with fail; refine (rover_any _ (hL.get (P := pH x (2 * 30) X) (by repeat (first | exact List.mem_cons_self | apply List.mem_cons_of_mem))) (hL.get (P := pH (.slice yA yn yc) (2 * 30) Y) (by repeat (first | exact List.mem_cons_self | apply List.mem_cons_of_mem))) (by decide) (by decide) hY.out).mono ?_; rintro e w1 ⟨p, t, rfl, hv, hv2, hb⟩; replace hL := ((hL.go hb).put (pH_st _ _ _) hv).put (pH_st _ _ _) hv2; clear hb hv hv2
      go_wp2_with fail; refine (same_t _ (k1 := 30) (k2 := (2 * 30)) (N := X / Y) (hL.get (P := pT q 30 (X / Y)) (by repeat (first | exact List.mem_cons_self | apply List.mem_cons_of_mem))) (hL.get (P := pH p (2 * 30) (X / Y)) (by repeat (first | exact List.mem_cons_self | apply List.mem_cons_of_mem))) (by decide) (by decide)).mono ?_; rintro e w1 ⟨rfl, hb⟩; replace hL := hL.go hb; clear hb
      go_wp2_with fail; refine (same_t _ (k1 := 30) (k2 := (2 * 30)) (N := X % Y) (hL.get (P := pT r 30 (X % Y)) (by repeat (first | exact List.mem_cons_self | apply List.mem_cons_of_mem))) (hL.get (P := pH t (2 * 30) (X % Y)) (by repeat (first | exact List.mem_cons_self | apply List.mem_cons_of_mem))) (by decide) (by decide)).mono ?_; rintro e w1 ⟨rfl, hb⟩; replace hL := hL.go hb; clear hb
      go_wp2_with fail; refine (halves_any _ (hL.get (P := pN a 30 X) (by repeat (first | exact List.mem_cons_self | apply List.mem_cons_of_mem))) (by decide)).mono ?_; rintro e w1 ⟨xx, rfl, hv, hb, -⟩; replace hL := (hL.go hb).put (pH_st _ _ _) hv; clear hb hv
      go_wp2_with fail; refine (rcmp_self (by decide) (by decide) _ (hL.get (P := pH xx (2 * 30) X) (by repeat (first | exact List.mem_cons_self | apply List.mem_cons_of_mem))) (hL.get (P := pH x (2 * 30) X) (by repeat (first | exact List.mem_cons_self | apply List.mem_cons_of_mem)))).mono ?_; rintro e w' ⟨rfl, rfl⟩
      go_wp2_with fail; refine (halves_any _ (hL.get (P := pN b 30 Y) (by repeat (first | exact List.mem_cons_self | apply List.mem_cons_of_mem))) (by decide)).mono ?_; rintro e w1 ⟨yy, rfl, hv, hb, -⟩; replace hL := (hL.go hb).put (pH_st _ _ _) hv; clear hb hv
      go_wp2_with fail; refine (rcmp_self (by decide) (by decide) _ (hL.get (P := pH yy (2 * 30) Y) (by repeat (first | exact List.mem_cons_self | apply List.mem_cons_of_mem))) (hL.get (P := pH (.slice yA yn yc) (2 * 30) Y) (by repeat (first | exact List.mem_cons_self | apply List.mem_cons_of_mem)))).mono ?_; rintro e w' ⟨rfl, rfl⟩
      go_wp2
      go_ret
      exact ⟨rfl, hL.below⟩
  · obtain ⟨c, hcv, hc0⟩ : ∃ c : Int, cmpV (X : Int) (Y : Int) = c ∧ 0 ≤ c := by
      rcases Nat.eq_or_lt_of_le hge with h | h
      · exact ⟨0, cmpV_eq (by omega), by omega⟩
      · exact ⟨1, cmpV_gt (by omega), by omega⟩
    replace hcv := Lib.hid hcv
    replace hge := Lib.hid hge
    rcases Nat.eq_zero_or_pos Y with hY | hY
    · have hyn : yn = 0 := by omega
      subst hY; subst hyn
      clear hy0
      · go_wp2_with fail; refine (rcmp_of hcv _ (hL.get (P := pH x (2 * 30) X) (by repeat (first | exact List.mem_cons_self | apply List.mem_cons_of_mem))) (hL.get (P := pH (.slice yA 0 yc) (2 * 30) 0) (by repeat (first | exact List.mem_cons_self | apply List.mem_cons_of_mem))) (by decide) (by decide)).mono ?_; rintro e w' ⟨rfl, rfl⟩
        go_wp2_with fail
        refine (sub_t (hL.get (P := pN a 30 X) (by repeat (first | exact List.mem_cons_self | apply List.mem_cons_of_mem))) (hL.get (P := pN b 30 0) (by repeat (first | exact List.mem_cons_self | apply List.mem_cons_of_mem))) (by decide) (by decide) hge.out).mono ?_
        rintro e w1 ⟨d, rfl, hv, hb⟩
        replace hL := (hL.go hb).put (pT_st _ _ _) hv
        clear hb hv
        go_wp2_with fail; refine (add_t (hL.get (P := pN a 30 X) (by repeat (first | exact List.mem_cons_self | apply List.mem_cons_of_mem))) (hL.get (P := pN b 30 0) (by repeat (first | exact List.mem_cons_self | apply List.mem_cons_of_mem))) (by decide) (by decide)).mono ?_; rintro e w1 ⟨s, rfl, hv, hb⟩; replace hL := (hL.go hb).put (pT_st _ _ _) hv; clear hb hv
        go_wp2_with fail; refine (plus_h (hL.get (P := pH x (2 * 30) X) (by repeat (first | exact List.mem_cons_self | apply List.mem_cons_of_mem))) (hL.get (P := pH (.slice yA 0 yc) (2 * 30) 0) (by repeat (first | exact List.mem_cons_self | apply List.mem_cons_of_mem))) (by decide) (by decide)).mono ?_; rintro e w1 ⟨s2, rfl, hv, hb, -⟩; replace hL := (hL.go hb).put (pH_st _ _ _) hv; clear hb hv
        go_wp2_with fail; refine (same_t _ (k1 := (max 30 30 + 1)) (k2 := (max (2 * 30) (2 * 30) + 1)) (N := X + 0) (hL.get (P := pT s (max 30 30 + 1) (X + 0)) (by repeat (first | exact List.mem_cons_self | apply List.mem_cons_of_mem))) (hL.get (P := pH s2 (max (2 * 30) (2 * 30) + 1) (X + 0)) (by repeat (first | exact List.mem_cons_self | apply List.mem_cons_of_mem))) (by decide) (by decide)).mono ?_; rintro e w1 ⟨rfl, hb⟩; replace hL := hL.go hb; clear hb
        go_wp2_with fail; refine (mul_t (hL.get (P := pN a 30 X) (by repeat (first | exact List.mem_cons_self | apply List.mem_cons_of_mem))) (hL.get (P := pN b 30 0) (by repeat (first | exact List.mem_cons_self | apply List.mem_cons_of_mem))) (by decide) (by decide)).mono ?_; rintro e w1 ⟨m, rfl, hv, hb⟩; replace hL := (hL.go hb).put (pT_st _ _ _) hv; clear hb hv
        go_wp2_with fail; refine (times_any _ (hL.get (P := pH x (2 * 30) X) (by repeat (first | exact List.mem_cons_self | apply List.mem_cons_of_mem))) (hL.get (P := pH (.slice yA 0 yc) (2 * 30) 0) (by repeat (first | exact List.mem_cons_self | apply List.mem_cons_of_mem))) (by decide) (by decide)).mono ?_; rintro e w1 ⟨m2, rfl, hv, hb, -⟩; replace hL := (hL.go hb).put (pH_st _ _ _) hv; clear hb hv
        go_wp2_with fail; refine (same_t _ (k1 := (30 + 30)) (k2 := (2 * 30 + 2 * 30)) (N := X * 0) (hL.get (P := pT m (30 + 30) (X * 0)) (by repeat (first | exact List.mem_cons_self | apply List.mem_cons_of_mem))) (hL.get (P := pH m2 (2 * 30 + 2 * 30) (X * 0)) (by repeat (first | exact List.mem_cons_self | apply List.mem_cons_of_mem))) (by decide) (by decide)).mono ?_; rintro e w1 ⟨rfl, hb⟩; replace hL := hL.go hb; clear hb
        go_wp2_with fail; refine (cmp_of hcv (hL.get (P := pN a 30 X) (by repeat (first | exact List.mem_cons_self | apply List.mem_cons_of_mem))) (hL.get (P := pN b 30 0) (by repeat (first | exact List.mem_cons_self | apply List.mem_cons_of_mem))) (by decide) (by decide)).mono ?_; rintro e w1 ⟨rfl, hb⟩; replace hL := hL.go hb; clear hb
        go_wp2_with fail; refine (minus_any _ (hL.get (P := pH x (2 * 30) X) (by repeat (first | exact List.mem_cons_self | apply List.mem_cons_of_mem))) (hL.get (P := pH (.slice yA 0 yc) (2 * 30) 0) (by repeat (first | exact List.mem_cons_self | apply List.mem_cons_of_mem))) (by decide) hge.out).mono ?_; rintro e w1 ⟨d2, rfl, hv, hb, -⟩; replace hL := (hL.go hb).put (pH_st _ _ _) hv; clear hb hv
        go_wp2_with fail; refine (same_t _ (k1 := 30) (k2 := (2 * 30)) (N := X - 0) (hL.get (P := pT d 30 (X - 0)) (by repeat (first | exact List.mem_cons_self | apply List.mem_cons_of_mem))) (hL.get (P := pH d2 (2 * 30) (X - 0)) (by repeat (first | exact List.mem_cons_self | apply List.mem_cons_of_mem))) (by decide) (by decide)).mono ?_; rintro e w1 ⟨rfl, hb⟩; replace hL := hL.go hb; clear hb
        go_wp2_with fail; refine (div_n (hL.get (P := pN a 30 X) (by repeat (first | exact List.mem_cons_self | apply List.mem_cons_of_mem))) (hL.get (P := pN b 30 0) (by repeat (first | exact List.mem_cons_self | apply List.mem_cons_of_mem))) (by decide) (by decide)).mono ?_; rintro e w1 ⟨rfl, hb⟩; replace hL := hL.go hb; clear hb
        go_wp2_with fail; refine (halves_any _ (hL.get (P := pN a 30 X) (by repeat (first | exact List.mem_cons_self | apply List.mem_cons_of_mem))) (by decide)).mono ?_; rintro e w1 ⟨xx, rfl, hv, hb, -⟩; replace hL := (hL.go hb).put (pH_st _ _ _) hv; clear hb hv
        go_wp2_with fail; refine (rcmp_self (by decide) (by decide) _ (hL.get (P := pH xx (2 * 30) X) (by repeat (first | exact List.mem_cons_self | apply List.mem_cons_of_mem))) (hL.get (P := pH x (2 * 30) X) (by repeat (first | exact List.mem_cons_self | apply List.mem_cons_of_mem)))).mono ?_; rintro e w' ⟨rfl, rfl⟩
        go_wp2_with fail; refine (halves_any _ (hL.get (P := pN b 30 0) (by repeat (first | exact List.mem_cons_self | apply List.mem_cons_of_mem))) (by decide)).mono ?_; rintro e w1 ⟨yy, rfl, hv, hb, -⟩; replace hL := (hL.go hb).put (pH_st _ _ _) hv; clear hb hv
        go_wp2_with fail; refine (rcmp_self (by decide) (by decide) _ (hL.get (P := pH yy (2 * 30) 0) (by repeat (first | exact List.mem_cons_self | apply List.mem_cons_of_mem))) (hL.get (P := pH (.slice yA 0 yc) (2 * 30) 0) (by repeat (first | exact List.mem_cons_self | apply List.mem_cons_of_mem)))).mono ?_; rintro e w' ⟨rfl, rfl⟩
        go_wp2
        go_ret
        exact ⟨rfl, hL.below⟩
    · have hyn : 0 < yn := hy0.2 hY
      replace hY := Lib.hid hY
      clear hy0
      go_wp2_with fail; refine (rcmp_of hcv _ (hL.get (P := pH x (2 * 30) X) (by repeat (first | exact List.mem_cons_self | apply List.mem_cons_of_mem))) (hL.get (P := pH (.slice yA yn yc) (2 * 30) Y) (by repeat (first | exact List.mem_cons_self | apply List.mem_cons_of_mem))) (by decide) (by decide)).mono ?_; rintro e w' ⟨rfl, rfl⟩
      go_wp2_with fail
      refine (sub_t (hL.get (P := pN a 30 X) (by repeat (first | exact List.mem_cons_self | apply List.mem_cons_of_mem))) (hL.get (P := pN b 30 Y) (by repeat (first | exact List.mem_cons_self | apply List.mem_cons_of_mem))) (by decide) (by decide) hge.out).mono ?_
      rintro e w1 ⟨d, rfl, hv, hb⟩
      replace hL := (hL.go hb).put (pT_st _ _ _) hv
      clear hb hv
      go_wp2_with fail; refine (add_t (hL.get (P := pN a 30 X) (by repeat (first | exact List.mem_cons_self | apply List.mem_cons_of_mem))) (hL.get (P := pN b 30 Y) (by repeat (first | exact List.mem_cons_self | apply List.mem_cons_of_mem))) (by decide) (by decide)).mono ?_; rintro e w1 ⟨s, rfl, hv, hb⟩; replace hL := (hL.go hb).put (pT_st _ _ _) hv; clear hb hv
      go_wp2_with fail; refine (plus_h (hL.get (P := pH x (2 * 30) X) (by repeat (first | exact List.mem_cons_self | apply List.mem_cons_of_mem))) (hL.get (P := pH (.slice yA yn yc) (2 * 30) Y) (by repeat (first | exact List.mem_cons_self | apply List.mem_cons_of_mem))) (by decide) (by decide)).mono ?_; rintro e w1 ⟨s2, rfl, hv, hb, -⟩; replace hL := (hL.go hb).put (pH_st _ _ _) hv; clear hb hv
      go_wp2_with fail; refine (same_t _ (k1 := (max 30 30 + 1)) (k2 := (max (2 * 30) (2 * 30) + 1)) (N := X + Y) (hL.get (P := pT s (max 30 30 + 1) (X + Y)) (by repeat (first | exact List.mem_cons_self | apply List.mem_cons_of_mem))) (hL.get (P := pH s2 (max (2 * 30) (2 * 30) + 1) (X + Y)) (by repeat (first | exact List.mem_cons_self | apply List.mem_cons_of_mem))) (by decide) (by decide)).mono ?_; rintro e w1 ⟨rfl, hb⟩; replace hL := hL.go hb; clear hb
      go_wp2_with fail; refine (mul_t (hL.get (P := pN a 30 X) (by repeat (first | exact List.mem_cons_self | apply List.mem_cons_of_mem))) (hL.get (P := pN b 30 Y) (by repeat (first | exact List.mem_cons_self | apply List.mem_cons_of_mem))) (by decide) (by decide)).mono ?_; rintro e w1 ⟨m, rfl, hv, hb⟩; replace hL := (hL.go hb).put (pT_st _ _ _) hv; clear hb hv
      go_wp2_with fail; refine (times_any _ (hL.get (P := pH x (2 * 30) X) (by repeat (first | exact List.mem_cons_self | apply List.mem_cons_of_mem))) (hL.get (P := pH (.slice yA yn yc) (2 * 30) Y) (by repeat (first | exact List.mem_cons_self | apply List.mem_cons_of_mem))) (by decide) (by decide)).mono ?_; rintro e w1 ⟨m2, rfl, hv, hb, -⟩; replace hL := (hL.go hb).put (pH_st _ _ _) hv; clear hb hv
      go_wp2_with fail; refine (same_t _ (k1 := (30 + 30)) (k2 := (2 * 30 + 2 * 30)) (N := X * Y) (hL.get (P := pT m (30 + 30) (X * Y)) (by repeat (first | exact List.mem_cons_self | apply List.mem_cons_of_mem))) (hL.get (P := pH m2 (2 * 30 + 2 * 30) (X * Y)) (by repeat (first | exact List.mem_cons_self | apply List.mem_cons_of_mem))) (by decide) (by decide)).mono ?_; rintro e w1 ⟨rfl, hb⟩; replace hL := hL.go hb; clear hb
      go_wp2_with fail; refine (cmp_of hcv (hL.get (P := pN a 30 X) (by repeat (first | exact List.mem_cons_self | apply List.mem_cons_of_mem))) (hL.get (P := pN b 30 Y) (by repeat (first | exact List.mem_cons_self | apply List.mem_cons_of_mem))) (by decide) (by decide)).mono ?_; rintro e w1 ⟨rfl, hb⟩; replace hL := hL.go hb; clear hb
      go_wp2_with fail; refine (minus_any _ (hL.get (P := pH x (2 * 30) X) (by repeat (first | exact List.mem_cons_self | apply List.mem_cons_of_mem))) (hL.get (P := pH (.slice yA yn yc) (2 * 30) Y) (by repeat (first | exact List.mem_cons_self | apply List.mem_cons_of_mem))) (by decide) hge.out).mono ?_; rintro e w1 ⟨d2, rfl, hv, hb, -⟩; replace hL := (hL.go hb).put (pH_st _ _ _) hv; clear hb hv
      go_wp2_with fail; refine (same_t _ (k1 := 30) (k2 := (2 * 30)) (N := X - Y) (hL.get (P := pT d 30 (X - Y)) (by repeat (first | exact List.mem_cons_self | apply List.mem_cons_of_mem))) (hL.get (P := pH d2 (2 * 30) (X - Y)) (by repeat (first | exact List.mem_cons_self | apply List.mem_cons_of_mem))) (by decide) (by decide)).mono ?_; rintro e w1 ⟨rfl, hb⟩; replace hL := hL.go hb; clear hb
      go_wp2_with fail; refine (div_t (hL.get (P := pN a 30 X) (by repeat (first | exact List.mem_cons_self | apply List.mem_cons_of_mem))) (hL.get (P := pN b 30 Y) (by repeat (first | exact List.mem_cons_self | apply List.mem_cons_of_mem))) (by decide) (by decide) hY.out).mono ?_; rintro e w1 ⟨q, r, rfl, hv, hv2, hb⟩; replace hL := ((hL.go hb).put (pT_st _ _ _) hv).put (pT_st _ _ _) hv2; clear hb hv hv2
      go_wp2_with fail; refine (rover_any _ (hL.get (P := pH x (2 * 30) X) (by repeat (first | exact List.mem_cons_self | apply List.mem_cons_of_mem))) (hL.get (P := pH (.slice yA yn yc) (2 * 30) Y) (by repeat (first | exact List.mem_cons_self | apply List.mem_cons_of_mem))) (by decide) (by decide) hY.out).mono ?_; rintro e w1 ⟨p, t, rfl, hv, hv2, hb⟩; replace hL := ((hL.go hb).put (pH_st _ _ _) hv).put (pH_st _ _ _) hv2; clear hb hv hv2
      go_wp2_with fail; refine (same_t _ (k1 := 30) (k2 := (2 * 30)) (N := X / Y) (hL.get (P := pT q 30 (X / Y)) (by repeat (first | exact List.mem_cons_self | apply List.mem_cons_of_mem))) (hL.get (P := pH p (2 * 30) (X / Y)) (by repeat (first | exact List.mem_cons_self | apply List.mem_cons_of_mem))) (by decide) (by decide)).mono ?_; rintro e w1 ⟨rfl, hb⟩; replace hL := hL.go hb; clear hb
      go_wp2_with fail; refine (same_t _ (k1 := 30) (k2 := (2 * 30)) (N := X % Y) (hL.get (P := pT r 30 (X % Y)) (by repeat (first | exact List.mem_cons_self | apply List.mem_cons_of_mem))) (hL.get (P := pH t (2 * 30) (X % Y)) (by repeat (first | exact List.mem_cons_self | apply List.mem_cons_of_mem))) (by decide) (by decide)).mono ?_; rintro e w1 ⟨rfl, hb⟩; replace hL := hL.go hb; clear hb
      go_wp2_with fail; refine (halves_any _ (hL.get (P := pN a 30 X) (by repeat (first | exact List.mem_cons_self | apply List.mem_cons_of_mem))) (by decide)).mono ?_; rintro e w1 ⟨xx, rfl, hv, hb, -⟩; replace hL := (hL.go hb).put (pH_st _ _ _) hv; clear hb hv
      go_wp2_with fail; refine (rcmp_self (by decide) (by decide) _ (hL.get (P := pH xx (2 * 30) X) (by repeat (first | exact List.mem_cons_self | apply List.mem_cons_of_mem))) (hL.get (P := pH x (2 * 30) X) (by repeat (first | exact List.mem_cons_self | apply List.mem_cons_of_mem)))).mono ?_; rintro e w' ⟨rfl, rfl⟩
      go_wp2_with fail; refine (halves_any _ (hL.get (P := pN b 30 Y) (by repeat (first | exact List.mem_cons_self | apply List.mem_cons_of_mem))) (by decide)).mono ?_; rintro e w1 ⟨yy, rfl, hv, hb, -⟩; replace hL := (hL.go hb).put (pH_st _ _ _) hv; clear hb hv
      go_wp2_with fail; refine (rcmp_self (by decide) (by decide) _ (hL.get (P := pH yy (2 * 30) Y) (by repeat (first | exact List.mem_cons_self | apply List.mem_cons_of_mem))) (hL.get (P := pH (.slice yA yn yc) (2 * 30) Y) (by repeat (first | exact List.mem_cons_self | apply List.mem_cons_of_mem)))).mono ?_; rintro e w' ⟨rfl, rfl⟩
      go_wp2
      go_ret
      exact ⟨rfl, hL.below⟩
end Go.Proofs.YtniffclplmgcfaaGreatDoor
