/- The document's rounding: the nearest magnitude; walked. Conditions: none. -/
/- The document's rounding: the pattern of a number; walked. Conditions: none. -/
/- The document's rounding: the pattern of a number, joined. Conditions: none. -/
/- Parse: what number a text tells, walked. Conditions: none. -/
/- The document's Parse, walked: words. Conditions: none. -/
import Derived.Test.YtncfbleeidjflaaGreatDoorPz38
import Derived.Test.YtncfbleeidjflaaGreatDoorPz30
import Derived.Test.YtncfbleeidjflaaGreatDoorPz32
import Derived.Defers
import Derived.Recover
import Derived.Tactics2
import Derived.Test.YtncfbleeidjflaaGreatDoorPz35
import Derived.Test.YtncfbleeidjflaaGreatDoorPz19
import Derived.Test.YtncfbleeidjflaaGreatDoorPz28
namespace Go.Proofs.YtncfbleeidjflaaGreatDoor
open Go.RowKit Go.Cal
set_option maxRecDepth 100000 in
set_option maxHeartbeats 2000000 in
theorem rnone8_any (neg : Bool) {A : Option Addr} {n c k N : Nat} (t f : Int) (w : World) (h : IsT w (.slice A n c) k N) :
    Calls Tryz.prog 103 #[.agg #[.bool neg, .slice A n c, .int .i64 t, .int .i64 f]] w fun e w' => e = .returned (.bool (decide (N = 0))) ∧ Below w.heap.size w w' := by
  have hb := (Below.refl w.heap.size w).alloc (Nat.le_refl _) (.cells #[.bool neg, .slice A n c, .int .i64 t, .int .i64 f] 71)
  rcases isT_zero h with ⟨rfl, rfl⟩ | ⟨h1, h2⟩
  · go_enter Tryz.func103, Tryz.ntmps103
    go_wp2
    go_ret
    exact ⟨rfl, hb⟩
  · have h3 : ¬ (n : Int) = 0 := by omega
    have h4 : ¬ n = 0 := by omega
    have h5 : decide (N = 0) = false := decide_eq_false (by omega)
    rw [h5]
    clear h
    go_enter Tryz.func103, Tryz.ntmps103
    go_wp2
    go_ret
    exact ⟨by simp; omega, hb⟩
theorem exP_zero8 {N : Nat} {t f : Int} : exP N t f ≠ 0 ↔ N ≠ 0 := by
  constructor
  · rintro h rfl
    exact h (by simp [exP])
  · intro h
    have := exP_pos t f (Nat.pos_of_ne_zero h)
    omega
/-- What Nearest tells. -/
def nearO (id : Int) (neg : Bool) (P Q : Nat) : Int := if overB id neg P Q = true then mostV id neg else (nearK id neg P Q : Nat)
set_option maxRecDepth 100000 in
set_option maxHeartbeats 4000000 in
theorem rnearest8_any (id : Int) (neg : Bool) (he : mostE id neg = 0) {A : Option Addr} {n c k N : Nat} (t f : Int) (w : World) (hd : IsT w (.slice A n c) k N) (hkk : k ≤ 10000) (ht : -5000 ≤ t ∧ t ≤ 5000) (hf : -5000 ≤ f ∧ f ≤ 5000) :
    Calls Tryz.prog 104 #[.int .i64 id, .bool neg, .agg #[.bool neg, .slice A n c, .int .i64 t, .int .i64 f]] w fun e w' => e = .returned (.tuple #[.int .u64 (nearO id neg (exP N t f) (exQ t f)), .bool (overB id neg (exP N t f) (exQ t f))]) ∧ Below w.heap.size w w' := by
  obtain ⟨h1, h2, h3⟩ := mostE_zero he
  have hmf := (most_fit he).1
  have hmb := mostV_bnd id neg
  have hmo := Lib.hid fun w => rmost7_yes id neg he w
  have hof := Lib.hid fun w => rof_yes id w h1 h2
  have hq := exQ_pos t f
  obtain ⟨M, hM⟩ : ∃ M : Nat, mostV id neg = (M : Int) := ⟨(mostV id neg).toNat, by omega⟩
  have hMt : (mostV id neg).toNat = M := by omega
  have hah := Lib.hid fun (key : Nat) (hk : key ≤ M) (W : World) (h : IsT W (.slice A n c) k N) => rahead8_any id h1 h2 neg t f key (by omega) W h.isN hkk ht hf
  have hno := Lib.hid fun (W : World) (h : IsT W (.slice A n c) k N) => rnone8_any neg t f W h
  have hov : overB id neg (exP N t f) (exQ t f) = !wiF id (exP N t f) (exQ t f) M := by unfold overB; rw [hMt]
  have hend := fun a (ha : a ≤ M) (h : Bis (wiF id (exP N t f) (exQ t f)) a a) => Bis.end (neg := neg) h1 h2 hq (by omega) h
  have hbno := fun lo hi (hle : hi ≤ M) (h : Bis (wiF id (exP N t f) (exQ t f)) lo hi) mid (hm : mid < hi) hw => Bis.no (neg := neg) h1 h2 hq (by omega) h (mid := mid) hm hw
  have hnz := exP_zero8 (N := N) (t := t) (f := f)
  unfold nearO
  rw [hM]
  rw [hM] at hmo hmf hmb
  obtain ⟨P, hP⟩ : ∃ P, exP N t f = P := ⟨_, rfl⟩
  obtain ⟨Q, hQ⟩ : ∃ Q, exQ t f = Q := ⟨_, rfl⟩
  rw [hP, hQ] at hah hov hend hbno ⊢
  rw [hP] at hnz
  rw [hov]
  have hM64 : M < 18446744073709551616 := by omega
  have hE0 := ExS.made w neg (.slice A n c) t f hd.isN
  have hT0 := ((LiveP.start w).put (pT_st (.slice A n c) k N) hd).go ((Below.refl w.heap.size w).alloc (Nat.le_refl _) (.cells #[.bool neg, .slice A n c, .int .i64 t, .int .i64 f] 71))
  clear he h3 hq hM hMt hov hP hQ hd hmf hmb
  go_enter Tryz.func104, Tryz.ntmps104
  go_wp2_with fail
  refine (hmo.out _).mono ?_
  rintro e w1 ⟨rfl, hb1⟩
  have hE1 := hE0.keep hb1
  have hT1 := hT0.go hb1
  clear hE0 hT0 hb1 hmo
  obtain ⟨e0, e1, e2, e3, el⟩ := (⟨hE1.c0, hE1.c1, hE1.c2, hE1.c3, hE1.lt⟩ : _ ∧ _ ∧ _ ∧ _ ∧ _)
  go_wp2_with fail
  refine (hah.out M (Nat.le_refl _) _ (hT1.get (P := pT (.slice A n c) k N) (by simp))).mono ?_
  rintro e w2 ⟨rfl, hb2⟩
  have hE2 := hE1.keep hb2
  have hT2 := hT1.go hb2
  clear hE1 hT1 hb2 e0 e1 e2 e3 el
  cases hwM : wiF id P Q M with
  | false =>
    have hfin := hE2.bel
    clear hah hno hof hend hbno hnz hE2 hT2
    go_wp2
    all_goals go_ret2
    all_goals exact ⟨rfl, hfin⟩
  | true =>
    go_wp2_with fail
    go_loopg [11, 12] M (fun g lv hv wr => ∃ lo hi : Nat, lv = .int .u64 (lo : Nat) ∧ hv = .int .u64 (hi : Nat) ∧ Bis (wiF id P Q) lo hi ∧ hi ≤ M ∧ hi - lo ≤ g ∧ ExS w w.heap.size neg (.slice A n c) t f k N wr ∧ LiveP w wr [pT (.slice A n c) k N])
    case atStart => exact ⟨0, M, rfl, rfl, ⟨Nat.zero_le _, fun i hi => by omega, hwM⟩, Nat.le_refl _, by omega, hE2, hT2⟩
    case round =>
      clear hE2 hT2
      obtain ⟨lo, hi, rfl, rfl, hbis, hhM, hgk, hE, hT⟩ := hrel
      obtain ⟨e0, e1, e2, e3, el⟩ := (⟨hE.c0, hE.c1, hE.c2, hE.c3, hE.lt⟩ : _ ∧ _ ∧ _ ∧ _ ∧ _)
      by_cases hlt : lo < hi
      · obtain ⟨dd, hdd⟩ : ∃ dd, hi - lo = dd := ⟨_, rfl⟩
        obtain ⟨mid, hmid⟩ : ∃ mid, lo + dd / 2 = mid := ⟨_, rfl⟩
        obtain ⟨qq, hqq⟩ : ∃ qq, dd / 2 = qq := ⟨_, rfl⟩
        have z1 : (hi : Int) - (lo : Int) = (dd : Int) := by omega
        have z2 : (dd : Int) / 2 = (qq : Int) := by omega
        have z3 : (lo : Int) + (qq : Int) = (mid : Int) := by omega
        have z4 : (lo : Int) < (hi : Int) := by omega
        have hml : lo ≤ mid ∧ mid < hi := by omega
        have hm64 : mid < 18446744073709551616 := by omega
        have hd64 : dd < 18446744073709551616 := by omega
        clear hmid hqq hdd
        go_wp2_with fail
        refine (hah.out mid (by omega) _ (hT.get (P := pT (.slice A n c) k N) (by simp))).mono ?_
        rintro e w3 ⟨rfl, hb3⟩
        have hE3 := hE.keep hb3
        have hT3 := hT.go hb3
        clear hE hT hb3 e0 e1 e2 e3 el
        cases hw3 : wiF id P Q mid with
        | true =>
          go_wp2_with fail
          go_roundg (gk - 1)
          case measure => omega
          case rel => exact ⟨lo, mid, rfl, rfl, hbis.yes hml.1 hw3, by omega, by omega, hE3, hT3⟩
        | false =>
          go_wp2_with fail
          go_roundg (gk - 1)
          case measure => omega
          case rel => exact ⟨mid + 1, hi, by simp, rfl, hbno lo hi hhM hbis mid hml.2 hw3, hhM, by omega, hE3, hT3⟩
      · have hle := hbis.le
        have hlh : lo = hi := by omega
        subst hlh
        have hnk := hend lo hhM hbis
        have z4 : ¬ (lo : Int) < (lo : Int) := by omega
        clear hah hend hbno hbis hle hlt
        go_wp2_with fail
        refine (hof.out _).mono ?_
        rintro e w3 ⟨rfl, hb3⟩
        have hal := (Below.refl w3.heap.size w3).alloc (Nat.le_refl _) (.cells #[.int .i64 (fK id), .int .i64 (fW id), .int .i64 (fM id), .int .i64 (fB id), .int .u64 (fT id), .int .u64 (fI id), .int .u64 (fN id)] 73)
        have hE3 := (hE.keep hb3).keep hal
        have hT3 := (hT.go hb3).go hal
        have hpF := pBlk_made w3 #[.int .i64 (fK id), .int .i64 (fW id), .int .i64 (fM id), .int .i64 (fB id), .int .u64 (fT id), .int .u64 (fI id), .int .u64 (fN id)] 73
        clear hE hT hb3 e0 e1 e2 e3 el hal
        obtain ⟨e0, e1, e2, e3, el⟩ := (⟨hE3.c0, hE3.c1, hE3.c2, hE3.c3, hE3.lt⟩ : _ ∧ _ ∧ _ ∧ _ ∧ _)
        go_wp2_with fail
        refine (hno.out _ (hT3.get (P := pT (.slice A n c) k N) (by simp))).mono ?_
        rintro e w4 ⟨rfl, hb4⟩
        have hfin := (hE3.keep hb4).bel
        have hpF4 := pBlk_st _ _ _ _ _ hpF hb4
        obtain ⟨q0, q1, q2, q3, q4, q5, q6⟩ := cells7R hpF4
        have ql := hpF4.lt
        clear hE3 hT3 hpF hb4 e0 e1 e2 e3 el
        have hcase : ((fK id == 1) = false ∧ nearK id neg P Q = lo) ∨ ((fK id == 1) = true ∧ ¬ lo = 0 ∧ nearK id neg P Q = lo) ∨ ((fK id == 1) = true ∧ lo = 0 ∧ N = 0 ∧ nearK id neg P Q = lo) ∨ ((fK id == 1) = true ∧ lo = 0 ∧ ¬ N = 0 ∧ nearK id neg P Q = 1) := by
          by_cases k1 : fK id = 1
          · by_cases l0 : lo = 0
            · by_cases n0 : N = 0
              · refine .inr (.inr (.inl ⟨by simp [k1], l0, n0, ?_⟩))
                rw [hnk, if_neg (by rintro ⟨-, -, x⟩; exact hnz.1 x n0)]
              · refine .inr (.inr (.inr ⟨by simp [k1], l0, n0, ?_⟩))
                rw [hnk, if_pos ⟨k1, l0, hnz.2 n0⟩]
            · refine .inr (.inl ⟨by simp [k1], l0, ?_⟩)
              rw [hnk, if_neg (by rintro ⟨-, x, -⟩; exact l0 x)]
          · refine .inl ⟨by simp [k1], ?_⟩
            rw [hnk, if_neg (by rintro ⟨x, -⟩; exact k1 x)]
        clear hnk hnz
        rcases hcase with ⟨b1, hn⟩ | ⟨b1, b2, hn⟩ | ⟨b1, rfl, rfl, hn⟩ | ⟨b1, rfl, b3, hn⟩
        all_goals go_wp2
        all_goals go_ret2
        all_goals first | exact ⟨rfl, hfin⟩ | exact ⟨by rw [hn]; rfl, hfin⟩
end Go.Proofs.YtncfbleeidjflaaGreatDoor
namespace Go.Proofs.YtncfbleeidjflaaGreatDoor
open Go.RowKit Go.Cal
set_option maxRecDepth 100000 in
set_option maxHeartbeats 4000000 in
theorem rround8_fn (id mode : Int) (h1 : 1 ≤ id) (h2 : id < 15) (neg : Bool) {A : Option Addr} {n c k N : Nat} (t f : Int) (w : World) (hd : IsT w (.slice A n c) k N) (z : Bool) (hz : decide (N = 0) = z) (b4 : (fK id == 4) = true) (hzn : z = true ∨ z = false ∧ neg = true) :
    Calls Tryz.prog 41 #[.int .i64 id, .int .i64 mode, (.agg #[.bool neg, .slice A n c, .int .i64 t, .int .i64 f])] w fun e w' => e = .returned (.int .u64 (fN id)) ∧ Below w.heap.size w w' := by
  have hof := Lib.hid fun w => rof_yes id w h1 h2
  have hno := Lib.hid fun (W : World) (h : IsT W (.slice A n c) k N) => rnone8_any neg t f W h
  have hE0 := ExS.made w neg (.slice A n c) t f hd.isN
  have hT0 := ((LiveP.start w).put (pT_st (.slice A n c) k N) hd).go ((Below.refl w.heap.size w).alloc (Nat.le_refl _) (.cells #[.bool neg, .slice A n c, .int .i64 t, .int .i64 f] 71))
  rw [hz] at hno
  clear h1 h2 hd hz
  go_enter Tryz.func41, Tryz.ntmps41
  go_wp2_with fail
  refine (hof.out _).mono ?_
  rintro e w1 ⟨rfl, hb1⟩
  have hal := (Below.refl w1.heap.size w1).alloc (Nat.le_refl _) (.cells #[.int .i64 (fK id), .int .i64 (fW id), .int .i64 (fM id), .int .i64 (fB id), .int .u64 (fT id), .int .u64 (fI id), .int .u64 (fN id)] 73)
  have hE1 := (hE0.keep hb1).keep hal
  have hT1 := (hT0.go hb1).go hal
  have hp1 := pBlk_made w1 #[.int .i64 (fK id), .int .i64 (fW id), .int .i64 (fM id), .int .i64 (fB id), .int .u64 (fT id), .int .u64 (fI id), .int .u64 (fN id)] 73
  clear hE0 hT0 hb1 hal hof
  obtain ⟨e0, e1, e2, e3, el⟩ := (⟨hE1.c0, hE1.c1, hE1.c2, hE1.c3, hE1.lt⟩ : _ ∧ _ ∧ _ ∧ _ ∧ _)
  go_wp2_with fail
  refine (hno.out _ (hT1.get (P := pT (.slice A n c) k N) (by simp))).mono ?_
  rintro e w2 ⟨rfl, hb2⟩
  have hE2 := hE1.keep hb2
  have hT2 := hT1.go hb2
  have hp2 := pBlk_st _ _ _ _ _ hp1 hb2
  clear hE1 hT1 hb2 hp1 hno e0 e1 e2 e3 el
  obtain ⟨e0, e1, e2, e3, el⟩ := (⟨hE2.c0, hE2.c1, hE2.c2, hE2.c3, hE2.lt⟩ : _ ∧ _ ∧ _ ∧ _ ∧ _)
  obtain ⟨q0, q1, q2, q3, q4, q5, q6⟩ := cells7R hp2
  have ql := hp2.lt
  have hfin := hE2.bel
  rcases hzn with rfl | ⟨rfl, rfl⟩
  · go_wp2
    all_goals go_ret
    all_goals exact ⟨rfl, hfin⟩
  · go_wp2
    all_goals go_ret
    all_goals exact ⟨rfl, hfin⟩
set_option maxRecDepth 100000 in
set_option maxHeartbeats 4000000 in
theorem rround8_pat (id mode : Int) (neg : Bool) {A : Option Addr} {n c k N : Nat} (t f : Int) (w : World) (hd : IsT w (.slice A n c) k N) (hkk : k ≤ 10000) (ht : -5000 ≤ t ∧ t ≤ 5000) (hf : -5000 ≤ f ∧ f ≤ 5000) (z : Bool) (hz : decide (N = 0) = z) (he : mostE id neg = 0) (b4 : (fK id == 4) = false ∨ (fK id == 4) = true ∧ z = false ∧ neg = false)
    (key : Nat) (hkm : (key : Int) ≤ mostV id neg) (o : Bool) (hnr : nearO id neg (exP N t f) (exQ t f) = (key : Int)) (hov : overB id neg (exP N t f) (exQ t f) = o) (p : Int) (hpv : patV id neg key = p)
    (hc : o = false ∨ o = true ∧ ((fK id == 1) = true ∨ (fK id == 1) = false ∧ ((mode == 1) = true ∨ (mode == 1) = false ∧ (fI id == 0) = true ∧ (fN id == 0) = true))) :
    Calls Tryz.prog 41 #[.int .i64 id, .int .i64 mode, (.agg #[.bool neg, .slice A n c, .int .i64 t, .int .i64 f])] w fun e w' => e = .returned (.int .u64 p) ∧ Below w.heap.size w w' := by
  have hne := Lib.hid fun (W : World) (h : IsT W (.slice A n c) k N) => rnearest8_any id neg he t f W h hkk ht hf
  have hpt := Lib.hid fun W => rpat7_any id neg key he hkm W
  obtain ⟨h1, h2, -⟩ := mostE_zero he
  rw [hnr, hov] at hne
  clear he hkm hkk ht hf hnr hov
  rw [hpv] at hpt
  clear hpv
  have hof := Lib.hid fun w => rof_yes id w h1 h2
  have hno := Lib.hid fun (W : World) (h : IsT W (.slice A n c) k N) => rnone8_any neg t f W h
  have hE0 := ExS.made w neg (.slice A n c) t f hd.isN
  have hT0 := ((LiveP.start w).put (pT_st (.slice A n c) k N) hd).go ((Below.refl w.heap.size w).alloc (Nat.le_refl _) (.cells #[.bool neg, .slice A n c, .int .i64 t, .int .i64 f] 71))
  rw [hz] at hno
  clear h1 h2 hd hz
  go_enter Tryz.func41, Tryz.ntmps41
  go_wp2_with fail
  refine (hof.out _).mono ?_
  rintro e w1 ⟨rfl, hb1⟩
  have hal := (Below.refl w1.heap.size w1).alloc (Nat.le_refl _) (.cells #[.int .i64 (fK id), .int .i64 (fW id), .int .i64 (fM id), .int .i64 (fB id), .int .u64 (fT id), .int .u64 (fI id), .int .u64 (fN id)] 73)
  have hE1 := (hE0.keep hb1).keep hal
  have hT1 := (hT0.go hb1).go hal
  have hp1 := pBlk_made w1 #[.int .i64 (fK id), .int .i64 (fW id), .int .i64 (fM id), .int .i64 (fB id), .int .u64 (fT id), .int .u64 (fI id), .int .u64 (fN id)] 73
  clear hE0 hT0 hb1 hal hof
  obtain ⟨e0, e1, e2, e3, el⟩ := (⟨hE1.c0, hE1.c1, hE1.c2, hE1.c3, hE1.lt⟩ : _ ∧ _ ∧ _ ∧ _ ∧ _)
  go_wp2_with fail
  refine (hno.out _ (hT1.get (P := pT (.slice A n c) k N) (by simp))).mono ?_
  rintro e w2 ⟨rfl, hb2⟩
  have hE2 := hE1.keep hb2
  have hT2 := hT1.go hb2
  have hp2 := pBlk_st _ _ _ _ _ hp1 hb2
  clear hE1 hT1 hb2 hp1 hno e0 e1 e2 e3 el
  obtain ⟨e0, e1, e2, e3, el⟩ := (⟨hE2.c0, hE2.c1, hE2.c2, hE2.c3, hE2.lt⟩ : _ ∧ _ ∧ _ ∧ _ ∧ _)
  obtain ⟨q0, q1, q2, q3, q4, q5, q6⟩ := cells7R hp2
  have ql := hp2.lt
  rcases b4 with b4 | ⟨b4, rfl, rfl⟩
  all_goals
    go_wp2_with fail
    refine (hne.out _ (hT2.get (P := pT (.slice A n c) k N) (by simp))).mono ?_
    rintro e w3 ⟨rfl, hb3⟩
    have hE3 := hE2.keep hb3
    have hp3 := pBlk_st _ _ _ _ _ hp2 hb3
    clear hE2 hT2 hb3 hp2 hne e0 e1 e2 e3 el q0 q1 q2 q3 q4 q5 q6 ql
    obtain ⟨e0, e1, e2, e3, el⟩ := (⟨hE3.c0, hE3.c1, hE3.c2, hE3.c3, hE3.lt⟩ : _ ∧ _ ∧ _ ∧ _ ∧ _)
    go_wp2_with fail
    refine (hpt.out _).mono ?_
    rintro e w4 ⟨rfl, hb4⟩
    have hE4 := hE3.keep hb4
    have hp4 := pBlk_st _ _ _ _ _ hp3 hb4
    clear hE3 hb4 hp3 hpt e0 e1 e2 e3 el
    have hfin := hE4.bel
    obtain ⟨e0, e1, e2, e3, el⟩ := (⟨hE4.c0, hE4.c1, hE4.c2, hE4.c3, hE4.lt⟩ : _ ∧ _ ∧ _ ∧ _ ∧ _)
    obtain ⟨q0, q1, q2, q3, q4, q5, q6⟩ := cells7R hp4
    have ql := hp4.lt
    rcases hc with rfl | ⟨rfl, c1 | ⟨c1, c2 | ⟨c2, c3, c4⟩⟩⟩
    all_goals go_wp2
    all_goals go_ret
    all_goals exact ⟨rfl, hfin⟩
set_option maxRecDepth 100000 in
set_option maxHeartbeats 4000000 in
theorem rround8_large (id mode : Int) (neg : Bool) {A : Option Addr} {n c k N : Nat} (t f : Int) (w : World) (hd : IsT w (.slice A n c) k N) (hkk : k ≤ 10000) (ht : -5000 ≤ t ∧ t ≤ 5000) (hf : -5000 ≤ f ∧ f ≤ 5000) (z : Bool) (hz : decide (N = 0) = z) (he : mostE id neg = 0) (b4 : (fK id == 4) = false ∨ (fK id == 4) = true ∧ z = false ∧ neg = false)
    (key : Nat) (hkm : (key : Int) ≤ mostV id neg) (hnr : nearO id neg (exP N t f) (exQ t f) = (key : Int)) (hov : overB id neg (exP N t f) (exQ t f) = true)
    (c1 : (fK id == 1) = false) (c2 : (mode == 1) = false)
    (hc : (fI id == 0) = true ∧ (fN id == 0) = false ∨ (fI id == 0) = false ∧ neg = false) :
    Calls Tryz.prog 41 #[.int .i64 id, .int .i64 mode, (.agg #[.bool neg, .slice A n c, .int .i64 t, .int .i64 f])] w fun e w' => e = .returned (.int .u64 (if fI id = 0 then fN id else fI id)) ∧ Below w.heap.size w w' := by
  have hv : ((fI id == 0) = true → (if fI id = 0 then fN id else fI id) = fN id) ∧ ((fI id == 0) = false → (if fI id = 0 then fN id else fI id) = fI id) := ⟨fun h => if_pos (by simpa using h), fun h => if_neg (by simpa using h)⟩
  obtain ⟨V, hV⟩ : ∃ V, (if fI id = 0 then fN id else fI id) = V := ⟨_, rfl⟩
  rw [hV] at hv ⊢
  clear hV
  have hne := Lib.hid fun (W : World) (h : IsT W (.slice A n c) k N) => rnearest8_any id neg he t f W h hkk ht hf
  have hpt := Lib.hid fun W => rpat7_any id neg key he hkm W
  obtain ⟨h1, h2, -⟩ := mostE_zero he
  rw [hnr, hov] at hne
  clear he hkm hkk ht hf hnr hov
  have hof := Lib.hid fun w => rof_yes id w h1 h2
  have hno := Lib.hid fun (W : World) (h : IsT W (.slice A n c) k N) => rnone8_any neg t f W h
  have hE0 := ExS.made w neg (.slice A n c) t f hd.isN
  have hT0 := ((LiveP.start w).put (pT_st (.slice A n c) k N) hd).go ((Below.refl w.heap.size w).alloc (Nat.le_refl _) (.cells #[.bool neg, .slice A n c, .int .i64 t, .int .i64 f] 71))
  rw [hz] at hno
  clear h1 h2 hd hz
  go_enter Tryz.func41, Tryz.ntmps41
  go_wp2_with fail
  refine (hof.out _).mono ?_
  rintro e w1 ⟨rfl, hb1⟩
  have hal := (Below.refl w1.heap.size w1).alloc (Nat.le_refl _) (.cells #[.int .i64 (fK id), .int .i64 (fW id), .int .i64 (fM id), .int .i64 (fB id), .int .u64 (fT id), .int .u64 (fI id), .int .u64 (fN id)] 73)
  have hE1 := (hE0.keep hb1).keep hal
  have hT1 := (hT0.go hb1).go hal
  have hp1 := pBlk_made w1 #[.int .i64 (fK id), .int .i64 (fW id), .int .i64 (fM id), .int .i64 (fB id), .int .u64 (fT id), .int .u64 (fI id), .int .u64 (fN id)] 73
  clear hE0 hT0 hb1 hal hof
  obtain ⟨e0, e1, e2, e3, el⟩ := (⟨hE1.c0, hE1.c1, hE1.c2, hE1.c3, hE1.lt⟩ : _ ∧ _ ∧ _ ∧ _ ∧ _)
  go_wp2_with fail
  refine (hno.out _ (hT1.get (P := pT (.slice A n c) k N) (by simp))).mono ?_
  rintro e w2 ⟨rfl, hb2⟩
  have hE2 := hE1.keep hb2
  have hT2 := hT1.go hb2
  have hp2 := pBlk_st _ _ _ _ _ hp1 hb2
  clear hE1 hT1 hb2 hp1 hno e0 e1 e2 e3 el
  obtain ⟨e0, e1, e2, e3, el⟩ := (⟨hE2.c0, hE2.c1, hE2.c2, hE2.c3, hE2.lt⟩ : _ ∧ _ ∧ _ ∧ _ ∧ _)
  obtain ⟨q0, q1, q2, q3, q4, q5, q6⟩ := cells7R hp2
  have ql := hp2.lt
  rcases b4 with b4 | ⟨b4, rfl, rfl⟩
  all_goals
    go_wp2_with fail
    refine (hne.out _ (hT2.get (P := pT (.slice A n c) k N) (by simp))).mono ?_
    rintro e w3 ⟨rfl, hb3⟩
    have hE3 := hE2.keep hb3
    have hp3 := pBlk_st _ _ _ _ _ hp2 hb3
    clear hE2 hT2 hb3 hp2 hne e0 e1 e2 e3 el q0 q1 q2 q3 q4 q5 q6 ql
    obtain ⟨e0, e1, e2, e3, el⟩ := (⟨hE3.c0, hE3.c1, hE3.c2, hE3.c3, hE3.lt⟩ : _ ∧ _ ∧ _ ∧ _ ∧ _)
    go_wp2_with fail
    refine (hpt.out _).mono ?_
    rintro e w4 ⟨rfl, hb4⟩
    have hE4 := hE3.keep hb4
    have hp4 := pBlk_st _ _ _ _ _ hp3 hb4
    clear hE3 hb4 hp3 hpt e0 e1 e2 e3 el
    have hfin := hE4.bel
    obtain ⟨e0, e1, e2, e3, el⟩ := (⟨hE4.c0, hE4.c1, hE4.c2, hE4.c3, hE4.lt⟩ : _ ∧ _ ∧ _ ∧ _ ∧ _)
    obtain ⟨q0, q1, q2, q3, q4, q5, q6⟩ := cells7R hp4
    have ql := hp4.lt
    rcases hc with ⟨c3, c4⟩ | ⟨c3, c4⟩
    · have hv' := hv.1 c3
      clear hv
      subst hv'
      go_wp2
      all_goals go_ret
      all_goals exact ⟨rfl, hfin⟩
    · have hv' := hv.2 c3
      clear hv
      subst hv'
      try subst c4
      go_wp2
      all_goals go_ret
      all_goals exact ⟨rfl, hfin⟩
set_option maxRecDepth 100000 in
set_option maxHeartbeats 4000000 in
theorem rround8_minus (id mode : Int) (neg : Bool) (hneg : neg = true) {A : Option Addr} {n c k N : Nat} (t f : Int) (w : World) (hd : IsT w (.slice A n c) k N) (hkk : k ≤ 10000) (ht : -5000 ≤ t ∧ t ≤ 5000) (hf : -5000 ≤ f ∧ f ≤ 5000) (z : Bool) (hz : decide (N = 0) = z) (he : mostE id neg = 0)
    (key : Nat) (hkm : (key : Int) ≤ mostV id neg) (hnr : nearO id neg (exP N t f) (exQ t f) = (key : Int)) (hov : overB id neg (exP N t f) (exQ t f) = true)
    (c1 : (fK id == 1) = false) (c2 : (mode == 1) = false) (c3 : (fI id == 0) = false) :
    Calls Tryz.prog 41 #[.int .i64 id, .int .i64 mode, .agg #[.bool neg, .slice A n c, .int .i64 t, .int .i64 f]] w fun e w' => e = .returned (.int .u64 (fI id + 2 ^ ((fW id).toNat - 1))) ∧ Below w.heap.size w w' := by
  have h4 := (mostE_zero he).2.2 hneg
  have b4 : (fK id == 4) = false := by simp [h4]
  have hft := ft_bounds id
  have hsg := fun w => Lib.hid (rsign_yes (fK id) (fW id) (fM id) (fB id) (fT id) (fI id) (fN id) w (by have := fo_nat (mostE_zero he).1 (mostE_zero he).2.1 neg; omega) hft.2.1 h4)
  have hlt : fI id + 2 ^ ((fW id).toNat - 1) < 18446744073709551616 ∧ 0 ≤ fI id := by
    obtain ⟨i1, i2, i3⟩ := mostE_zero he
    clear hkm hnr hov
    rcases id_cases i1 i2 with rfl | rfl | rfl | rfl | rfl | rfl | rfl | rfl | rfl | rfl | rfl | rfl | rfl | rfl <;> decide +kernel
  obtain ⟨hlt, hge⟩ := hlt
  obtain ⟨S, hS⟩ : ∃ S, (2 : Int) ^ ((fW id).toNat - 1) = S := ⟨_, rfl⟩
  have hS0 : 0 < S := by rw [← hS]; exact pow_pos _
  rw [hS] at hsg hlt ⊢
  clear h4 hS hft
  replace hneg := Lib.hid hneg
  have hne := Lib.hid fun (W : World) (h : IsT W (.slice A n c) k N) => rnearest8_any id neg he t f W h hkk ht hf
  have hpt := Lib.hid fun W => rpat7_any id neg key he hkm W
  obtain ⟨h1, h2, -⟩ := mostE_zero he
  rw [hnr, hov] at hne
  clear he hkm hkk ht hf hnr hov
  have hof := Lib.hid fun w => rof_yes id w h1 h2
  have hno := Lib.hid fun (W : World) (h : IsT W (.slice A n c) k N) => rnone8_any neg t f W h
  have hE0 := ExS.made w neg (.slice A n c) t f hd.isN
  have hT0 := ((LiveP.start w).put (pT_st (.slice A n c) k N) hd).go ((Below.refl w.heap.size w).alloc (Nat.le_refl _) (.cells #[.bool neg, .slice A n c, .int .i64 t, .int .i64 f] 71))
  rw [hz] at hno
  clear h1 h2 hd hz
  go_enter Tryz.func41, Tryz.ntmps41
  go_wp2_with fail
  refine (hof.out _).mono ?_
  rintro e w1 ⟨rfl, hb1⟩
  have hal := (Below.refl w1.heap.size w1).alloc (Nat.le_refl _) (.cells #[.int .i64 (fK id), .int .i64 (fW id), .int .i64 (fM id), .int .i64 (fB id), .int .u64 (fT id), .int .u64 (fI id), .int .u64 (fN id)] 73)
  have hE1 := (hE0.keep hb1).keep hal
  have hT1 := (hT0.go hb1).go hal
  have hp1 := pBlk_made w1 #[.int .i64 (fK id), .int .i64 (fW id), .int .i64 (fM id), .int .i64 (fB id), .int .u64 (fT id), .int .u64 (fI id), .int .u64 (fN id)] 73
  clear hE0 hT0 hb1 hal hof
  obtain ⟨e0, e1, e2, e3, el⟩ := (⟨hE1.c0, hE1.c1, hE1.c2, hE1.c3, hE1.lt⟩ : _ ∧ _ ∧ _ ∧ _ ∧ _)
  go_wp2_with fail
  refine (hno.out _ (hT1.get (P := pT (.slice A n c) k N) (by simp))).mono ?_
  rintro e w2 ⟨rfl, hb2⟩
  have hE2 := hE1.keep hb2
  have hT2 := hT1.go hb2
  have hp2 := pBlk_st _ _ _ _ _ hp1 hb2
  clear hE1 hT1 hb2 hp1 hno e0 e1 e2 e3 el
  obtain ⟨e0, e1, e2, e3, el⟩ := (⟨hE2.c0, hE2.c1, hE2.c2, hE2.c3, hE2.lt⟩ : _ ∧ _ ∧ _ ∧ _ ∧ _)
  obtain ⟨q0, q1, q2, q3, q4, q5, q6⟩ := cells7R hp2
  have ql := hp2.lt
  all_goals
    go_wp2_with fail
    refine (hne.out _ (hT2.get (P := pT (.slice A n c) k N) (by simp))).mono ?_
    rintro e w3 ⟨rfl, hb3⟩
    have hE3 := hE2.keep hb3
    have hp3 := pBlk_st _ _ _ _ _ hp2 hb3
    clear hE2 hT2 hb3 hp2 hne e0 e1 e2 e3 el q0 q1 q2 q3 q4 q5 q6 ql
    obtain ⟨e0, e1, e2, e3, el⟩ := (⟨hE3.c0, hE3.c1, hE3.c2, hE3.c3, hE3.lt⟩ : _ ∧ _ ∧ _ ∧ _ ∧ _)
    go_wp2_with fail
    refine (hpt.out _).mono ?_
    rintro e w4 ⟨rfl, hb4⟩
    have hE4 := hE3.keep hb4
    have hp4 := pBlk_st _ _ _ _ _ hp3 hb4
    clear hE3 hb4 hp3 hpt e0 e1 e2 e3 el
    have hfin := hE4.bel
    obtain ⟨e0, e1, e2, e3, el⟩ := (⟨hE4.c0, hE4.c1, hE4.c2, hE4.c3, hE4.lt⟩ : _ ∧ _ ∧ _ ∧ _ ∧ _)
    obtain ⟨q0, q1, q2, q3, q4, q5, q6⟩ := cells7R hp4
    have ql := hp4.lt
    have hneg := hneg.out
    subst hneg
    have cc := fun (u : Later w4.heap.size w4) => And.intro (u.cell _ _ _ ql q0) (And.intro (u.cell _ _ _ ql q1) (And.intro (u.cell _ _ _ ql q2) (And.intro (u.cell _ _ _ ql q3) (And.intro (u.cell _ _ _ ql q4) (And.intro (u.cell _ _ _ ql q5) (u.cell _ _ _ ql q6))))))
    obtain ⟨c0, c1', c2', c3', c4, c5, c6⟩ := forall7 cc
    clear cc
    go_wp2_with fail
    refine wp_region_later (B := w4.heap.size) (by kernel_rfl) (by kernel_rfl) (Below.refl _ _) ?_
    repeat (go_big_quiet_step ((go_at_call 40; refine Calls.later_of (Nat.le_refl _) (hsg _).out)))
    refine wpQuiet_nil ?_
    intro w5 hb5
    have hfin' := (hE4.keep hb5).bel
    clear e0 e1 e2 e3 el q0 q1 q2 q3 q4 q5 q6 ql c0 c1' c2' c3' c4 c5 c6
    go_wp2
    all_goals go_ret
    all_goals exact ⟨rfl, hfin'⟩
end Go.Proofs.YtncfbleeidjflaaGreatDoor
namespace Go.Proofs.YtncfbleeidjflaaGreatDoor
open Go.RowKit Go.Cal
theorem rround8_any (id mode : Int) (hE : roundE id mode = 0) (neg : Bool) {A : Option Addr} {n c k N : Nat} (t f : Int) (w : World) (hd : IsT w (.slice A n c) k N) (hkk : k ≤ 10000) (ht : -5000 ≤ t ∧ t ≤ 5000) (hf : -5000 ≤ f ∧ f ≤ 5000) :
    Calls Tryz.prog 41 #[.int .i64 id, .int .i64 mode, (.agg #[.bool neg, .slice A n c, .int .i64 t, .int .i64 f])] w fun e w' => e = .returned (.int .u64 (roundP id mode neg (exP N t f) (exQ t f))) ∧ Below w.heap.size w w' := by
  have hid : 1 ≤ id ∧ id < 15 ∧ (mode = 1 ∨ mode = 2) := by
    unfold roundE at hE
    split at hE
    · cases hE
    · split at hE
      · cases hE
      · omega
  obtain ⟨h1, h2, hm⟩ := hid
  obtain ⟨z, hz⟩ : ∃ z, decide (N = 0) = z := ⟨_, rfl⟩
  unfold roundP
  by_cases h4 : fK id = 4 ∧ (neg = true ∨ exP N t f = 0)
  · rw [if_pos h4]
    refine rround8_fn id mode h1 h2 neg t f w hd z hz (by simp [h4.1]) ?_
    cases z with
    | true => exact .inl rfl
    | false =>
      have hn : ¬ N = 0 := of_decide_eq_false hz
      rcases h4.2 with h | h
      · exact .inr ⟨rfl, h⟩
      · exact absurd ((expP_zero N t f).1 h) hn
  · rw [if_neg h4]
    have he : mostE id neg = 0 := by
      unfold mostE
      rw [if_neg (by omega), if_neg (fun h => h4 ⟨h.2, .inl h.1⟩)]
    have b4 : (fK id == 4) = false ∨ (fK id == 4) = true ∧ z = false ∧ neg = false := by
      by_cases h : fK id = 4
      · right
        refine ⟨by simp [h], ?_, ?_⟩
        · rw [← hz]
          exact decide_eq_false fun h0 => h4 ⟨h, .inr ((expP_zero N t f).2 h0)⟩
        · cases neg with
          | true => exact absurd ⟨h, .inl rfl⟩ h4
          | false => rfl
      · left; simp [h]
    cases ho : overB id neg (exP N t f) (exQ t f) with
    | false =>
      rw [if_neg (by decide)]
      exact rround8_pat id mode neg t f w hd hkk ht hf z hz he b4 (nearK id neg (exP N t f) (exQ t f)) (nearK_le id neg _ _) false (by unfold nearO; rw [ho, if_neg (by decide)]) ho _ rfl (.inl rfl)
    | true =>
      rw [if_pos rfl]
      obtain ⟨M, hM⟩ : ∃ M : Nat, mostV id neg = (M : Int) := ⟨(mostV id neg).toNat, by have := mostV_bnd id neg; omega⟩
      have hnr : nearO id neg (exP N t f) (exQ t f) = (M : Int) := by unfold nearO; rw [ho, if_pos rfl, hM]
      unfold largeV
      by_cases hl : mode = 1 ∨ fK id = 1 ∨ (fI id = 0 ∧ fN id = 0)
      · rw [if_pos hl]
        refine rround8_pat id mode neg t f w hd hkk ht hf z hz he b4 M (by omega) true hnr ho _ (by rw [hM]) (.inr ⟨rfl, ?_⟩)
        by_cases k1 : fK id = 1
        · left; simp [k1]
        · right
          refine ⟨by simp [k1], ?_⟩
          by_cases k2 : mode = 1
          · left; simp [k2]
          · right
            rcases hl with h | h | h
            · exact absurd h k2
            · exact absurd h k1
            · exact ⟨by simp [k2], by simp [h.1], by simp [h.2]⟩
      · rw [if_neg hl]
        have k1 : (fK id == 1) = false := by simp; exact fun h => hl (.inr (.inl h))
        have k2 : (mode == 1) = false := by simp; exact fun h => hl (.inl h)
        by_cases k3 : fI id = 0
        · have k4 : ¬ fN id = 0 := fun h => hl (.inr (.inr ⟨k3, h⟩))
          have := rround8_large id mode neg t f w hd hkk ht hf z hz he b4 M (by omega) hnr ho k1 k2 (.inl ⟨by simp [k3], by simp [k4]⟩)
          rw [if_pos k3] at this
          rw [if_pos k3]
          exact this
        · rw [if_neg k3]
          cases neg with
          | true =>
            rw [if_pos rfl]
            exact rround8_minus id mode true rfl t f w hd hkk ht hf z hz he M (by omega) hnr ho k1 k2 (by simp [k3])
          | false =>
            rw [if_neg (by decide)]
            have := rround8_large id mode false t f w hd hkk ht hf z hz he b4 M (by omega) hnr ho k1 k2 (.inr ⟨by simp [k3], rfl⟩)
            rw [if_neg k3] at this
            exact this
end Go.Proofs.YtncfbleeidjflaaGreatDoor
namespace Go.Proofs.YtncfbleeidjflaaGreatDoor
open Go.RowKit Go.Cal
theorem pBlk.othX {g g' : Nat} {cs : Array Value} {t : TypeId} {w : World} (h : pBlk g cs t w) (hne : g ≠ g') (i : Nat) (u : Value) : pBlk g cs t (w.setCell ⟨g', i, none⟩ u) := by
  unfold pBlk at *
  simp only [World.setCell, Array.getElem?_modify]
  rw [if_neg (fun e => hne e.symm)]
  exact h
end Go.Proofs.YtncfbleeidjflaaGreatDoor
namespace Go.Proofs.YtncfbleeidjflaaGreatDoor
open Go.RowKit Go.Cal
theorem rsgn_any (id : Int) (h1 : 1 ≤ id) (h2 : id < 15) (w : World) : Calls Tryz.prog 40 #[.agg #[.int .i64 (fK id), .int .i64 (fW id), .int .i64 (fM id), .int .i64 (fB id), .int .u64 (fT id), .int .u64 (fI id), .int .u64 (fN id)]] w fun e w' => e = .returned (.int .u64 (sgV id)) ∧ Below w.heap.size w w' := by
  unfold sgV
  by_cases h4 : fK id = 4
  · rw [if_pos h4, h4]
    exact rsign_no _ _ _ _ _ _ w
  · rw [if_neg h4]
    exact rsign_yes _ _ _ _ _ _ _ w (by have := fo_nat h1 h2 true; omega) (ft_bounds id).2.1 h4
end Go.Proofs.YtncfbleeidjflaaGreatDoor
