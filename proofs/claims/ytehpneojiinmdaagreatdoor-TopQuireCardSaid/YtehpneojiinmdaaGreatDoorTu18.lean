/- Rounding: the nearest magnitude, walked. Conditions: the variables that values read. -/
/- Plain: the interval of a pattern's sizes; its own number lies in it; digits that lie in it are rounded to the pattern. Conditions: none. -/
/- Plain: the greatest power of ten that is not above a number, by steps from above. Conditions: none. -/
/- Exact numbers: Log10, walked. Conditions: none. -/
/- The shortest digits: ten, digits, walked. Conditions: none. -/
/- The shortest digits: is a number in an interval, walked. Conditions: none. -/
import Derived.Test.YtehpneojiinmdaaGreatDoorTu17
import Derived.Deep.LoopGhost
import Derived.Test.YtehpneojiinmdaaGreatDoorTu01
import Derived.Test.YtehpneojiinmdaaGreatDoorTu15
namespace Go.Proofs.YtehpneojiinmdaaGreatDoor
open Go.RowKit Go.Cal
theorem rzero_any (neg : Bool) {A : Option Addr} {n c k N : Nat} (t f : Int) {w : World} (h : IsT w (.slice A n c) k N) :
    Calls Tryz.prog 63 #[.agg #[.bool neg, .slice A n c, .int .i64 t, .int .i64 f]] w fun e w' => e = .returned (.bool (decide (N = 0))) ∧ Below w.heap.size w w' := by
  have hd : decide (N = 0) = ((n : Int) == 0) := by
    rw [Bool.eq_iff_iff, beq_iff_eq, decide_eq_true_iff]
    rcases isT_zero h with ⟨a, b⟩ | ⟨a, b⟩ <;> omega
  rw [hd]
  go_enter Tryz.func63, Tryz.ntmps63
  go_wp2
  go_ret
  exact ⟨rfl, (Below.refl _ _).alloc (Nat.le_refl _) _⟩
theorem most_fit {id : Int} {neg : Bool} (he : mostE id neg = 0) : mostV id neg ≤ fitM id ∧ mostR id neg = mostV id neg := by
  have h1 : mostR id neg = mostV id neg := by unfold mostR; rw [if_pos he]
  refine ⟨?_, h1⟩
  unfold mostV fitM
  by_cases h3 : fK id = 3
  · rw [if_pos h3]; split <;> omega
  · rw [if_neg h3, if_neg (fun h => h3 h.2)]
    exact Int.le_refl _
theorem most_wide {id : Int} {neg : Bool} (he : mostE id neg = 0) : (mostV id neg).toNat < 2 ^ (fW id).toNat ∧ 1 ≤ (fW id).toNat := by
  obtain ⟨h1, h2, h3⟩ := mostE_zero he
  obtain ⟨-, -, a, -, -, -, b⟩ := fo_nat h1 h2 neg
  exact ⟨b, by omega⟩
/-- What Nearest tells. -/
def nearV (id : Int) (neg : Bool) (P Q : Nat) : Int := if overB id neg P Q = true then mostV id neg else nearK id neg P Q
set_option maxRecDepth 100000 in
set_option maxHeartbeats 4000000 in
theorem nearest_any (id : Int) (neg : Bool) (he : mostE id neg = 0) {A : Option Addr} {n c N : Nat} (t f : Int) {w : World} (hW : VaW w) (h : IsT w (.slice A n c) 128 N) (ht : -5000 ≤ t ∧ t ≤ 5000) (hf : -5000 ≤ f ∧ f ≤ 5000) :
    Calls Tryz.prog 64 #[.int .i64 id, .bool neg, .agg #[.bool neg, .slice A n c, .int .i64 t, .int .i64 f]] w fun e w' => e = .returned (.tuple #[.int .u64 (nearV id neg (exP N t f) (exQ t f)), .bool (overB id neg (exP N t f) (exQ t f)), .int .i64 0]) ∧ Below w.heap.size w w' := by
  obtain ⟨h1, h2, h4⟩ := mostE_zero he
  obtain ⟨hmf, hmR⟩ := most_fit he
  obtain ⟨hmw, hw1⟩ := most_wide he
  obtain ⟨w1, w2, w3, w4, e1, e2, e3⟩ := fo_wide h1 h2
  have hwa : 1 ≤ fW id := by omega
  have hwb : fW id ≤ 64 := by omega
  replace e1 := Lib.hid e1
  clear e2 e3
  have hmb := mostV_bnd id neg
  have hmo := fun w hW => vmost_any id neg w hW
  rw [he, hmR] at hmo
  obtain ⟨mN, hmN⟩ : ∃ m : Nat, mostV id neg = (m : Int) := ⟨(mostV id neg).toNat, by omega⟩
  have hmt : (mostV id neg).toNat = mN := by omega
  obtain ⟨P, hP⟩ : ∃ P, exP N t f = P := ⟨_, rfl⟩
  obtain ⟨Q, hQ⟩ : ∃ Q, exQ t f = Q := ⟨_, rfl⟩
  have hwn := fun (W : World) (hW : VaW W) (hv : IsT W (.slice A n c) 128 N) (key : Nat) (hk : (key : Int) ≤ fitM id) => within_any id h1 h2 neg t f key hk hW hv ht hf
  rw [hP, hQ] at hwn ⊢
  have hov : overB id neg P Q = !wiF id P Q mN := by unfold overB; rw [hmt]
  have hnk : nearK id neg P Q = if fK id = 1 ∧ seek (wiF id P Q) mN (fW id).toNat 0 = 0 ∧ P ≠ 0 then 1 else seek (wiF id P Q) mN (fW id).toNat 0 := by unfold nearK; rw [hmt]
  have hP0 : P = 0 ↔ N = 0 := by
    rw [← hP]
    constructor
    · intro h0
      rcases Nat.eq_zero_or_pos N with h3 | h3
      · exact h3
      · have := exP_pos t f h3; omega
    · intro h0; rw [h0]; exact exP_zero t f
  have hnv : nearV id neg P Q = if (!wiF id P Q mN) = true then (mN : Int) else ((nearK id neg P Q : Nat) : Int) := by unfold nearV; rw [hov, hmN]
  rw [hnv, hov]
  rw [hmN] at hmo hmf hmb
  have hrt := Lib.hid (fun (W : World) (hv : IsT W (.slice A n c) 128 N) => xright_yes neg t f hv ht hf)
  have hb0 := (Below.refl w.heap.size w).alloc (Nat.le_refl _) (.cells #[.bool neg, .slice A n c, .int .i64 t, .int .i64 f] 52)
  have hL := (((LiveP.start w).go hb0).put (pBlk_st _ _ _) (pBlk_made w #[.bool neg, .slice A n c, .int .i64 t, .int .i64 f] 52)).put (pT_st (.slice A n c) 128 N) (h.below hb0)
  replace hmo := Lib.hid hmo
  replace hwn := Lib.hid hwn
  obtain ⟨Wn, hWn⟩ : ∃ W, (fW id).toNat = W := ⟨_, rfl⟩
  rw [hWn] at hnk hmw hw1 w1
  have hbit := Lib.hid (show IntKind.u64.wrap ((2 : Int) ^ (Wn - 1)) = ((2 ^ (Wn - 1) : Nat) : Int) by
    have h3 : 2 ^ (Wn - 1) ≤ 2 ^ 63 := Nat.pow_le_pow_right (by decide) (by omega)
    have e5 : (2 : Int) ^ (Wn - 1) = ((2 ^ (Wn - 1) : Nat) : Int) := by push_cast; rfl
    rw [e5, wrap_u64]
    generalize 2 ^ (Wn - 1) = x at h3 ⊢
    omega)
  have hhalf := Lib.hid (show 2 ^ Wn / 2 = 2 ^ (Wn - 1) by
    obtain ⟨y, rfl⟩ : ∃ y, Wn = y + 1 := ⟨Wn - 1, by omega⟩
    rw [Nat.pow_succ, show y + 1 - 1 = y by omega]
    omega)
  have hpw := Lib.hid (show 2 ^ Wn ≤ 18446744073709551616 from Nat.pow_le_pow_right (n := 2) (by decide) w1)
  clear hov hnv hmt hmR h hb0 he hP hQ
  cases hwm : wiF id P Q mN with
  | false =>
    simp only [Bool.not_false, if_true]
    have hwm' := Lib.hid hwm
    go_enter Tryz.func64, Tryz.ntmps64
    go_wp2_with fail
    refine (hmo.out _ (hW.below hL.below)).mono ?_
    rintro e u1 ⟨rfl, hb1⟩
    replace hL := hL.go hb1
    obtain ⟨r0, r1, r2, r3⟩ := cells4 (hL.get (P := pBlk w.heap.size #[.bool neg, .slice A n c, .int .i64 t, .int .i64 f] 52) (by repeat (first | exact List.mem_cons_self | apply List.mem_cons_of_mem)))
    go_wp2_with fail
    refine (hrt.out _ (hL.get (P := pT (.slice A n c) 128 N) (by repeat (first | exact List.mem_cons_self | apply List.mem_cons_of_mem)))).mono ?_
    rintro e u2 ⟨rfl, hb2⟩
    replace hL := hL.go hb2
    clear r0 r1 r2 r3
    obtain ⟨r0, r1, r2, r3⟩ := cells4 (hL.get (P := pBlk w.heap.size #[.bool neg, .slice A n c, .int .i64 t, .int .i64 f] 52) (by repeat (first | exact List.mem_cons_self | apply List.mem_cons_of_mem)))
    go_wp2_with fail
    refine (hwn.out _ (hW.below hL.below) (hL.get (P := pT (.slice A n c) 128 N) (by repeat (first | exact List.mem_cons_self | apply List.mem_cons_of_mem))) mN hmf).mono ?_
    rintro e u3 ⟨rfl, hb3⟩
    replace hL := hL.go hb3
    rw [hwm'.out]
    go_wp2
    go_ret3
    exact ⟨rfl, hL.below⟩
  | true =>
    simp only [Bool.not_true, Bool.false_eq_true, if_false]
    have hwm' := Lib.hid hwm
    have hfo := Lib.hid (fun (W : World) (hW : VaW W) => fo_of id W hW.frm h1 h2)
    go_enter Tryz.func64, Tryz.ntmps64
    go_wp2_with fail
    refine (hmo.out _ (hW.below hL.below)).mono ?_
    rintro e u1 ⟨rfl, hb1⟩
    replace hL := hL.go hb1
    obtain ⟨r0, r1, r2, r3⟩ := cells4 (hL.get (P := pBlk w.heap.size #[.bool neg, .slice A n c, .int .i64 t, .int .i64 f] 52) (by repeat (first | exact List.mem_cons_self | apply List.mem_cons_of_mem)))
    go_wp2_with fail
    refine (hrt.out _ (hL.get (P := pT (.slice A n c) 128 N) (by repeat (first | exact List.mem_cons_self | apply List.mem_cons_of_mem)))).mono ?_
    rintro e u2 ⟨rfl, hb2⟩
    replace hL := hL.go hb2
    clear r0 r1 r2 r3
    obtain ⟨r0, r1, r2, r3⟩ := cells4 (hL.get (P := pBlk w.heap.size #[.bool neg, .slice A n c, .int .i64 t, .int .i64 f] 52) (by repeat (first | exact List.mem_cons_self | apply List.mem_cons_of_mem)))
    go_wp2_with fail
    refine (hwn.out _ (hW.below hL.below) (hL.get (P := pT (.slice A n c) 128 N) (by repeat (first | exact List.mem_cons_self | apply List.mem_cons_of_mem))) mN hmf).mono ?_
    rintro e u3 ⟨rfl, hb3⟩
    replace hL := hL.go hb3
    rw [hwm'.out]
    go_wp2_with fail
    refine (hfo.out _ (hW.below hL.below)).mono ?_
    rintro e u4 ⟨rfl, hb4⟩
    replace hL := hL.go hb4
    go_wp2_with fail
    rw [hbit.out]
    replace hL := (hL.go ((Below.refl _ _).alloc (Nat.le_refl _) (.cells #[.int .i64 (fK id), .int .i64 (fW id), .int .i64 (fM id), .int .i64 (fB id), .int .u64 (fT id), .int .u64 (fI id), .int .u64 (fN id)] 25))).put (pBlk_st _ _ _) (pBlk_made u4 #[.int .i64 (fK id), .int .i64 (fW id), .int .i64 (fM id), .int .i64 (fB id), .int .u64 (fT id), .int .u64 (fI id), .int .u64 (fN id)] 25)
    obtain ⟨K0, hK0⟩ : ∃ K, seek (wiF id P Q) mN Wn 0 = K := ⟨_, rfl⟩
    rw [hK0] at hnk
    replace hnk := Lib.hid hnk
    replace hP0 := Lib.hid hP0
    clear r0 r1 r2 r3 hb1 hb2 hb3 hb4
    obtain ⟨g4, hg4⟩ : ∃ g, u4.heap.size = g := ⟨_, rfl⟩
    rw [hg4] at hL ⊢
    go_loopg [13, 14, 15] Wn (fun g kv bv xv wr => ∃ key : Nat, kv = .int .u64 key ∧ bv = .int .u64 ((2 ^ g / 2 : Nat) : Int) ∧ seek (wiF id P Q) mN g key = K0 ∧ key ≤ mN ∧ key + 2 ^ g ≤ 18446744073709551616 ∧ LiveP w wr (pBlk g4 #[.int .i64 (fK id), .int .i64 (fW id), .int .i64 (fM id), .int .i64 (fB id), .int .u64 (fT id), .int .u64 (fI id), .int .u64 (fN id)] 25 :: [pT (.slice A n c) 128 N, pBlk w.heap.size #[.bool neg, .slice A n c, .int .i64 t, .int .i64 f] 52]))
    case atStart => exact ⟨0, rfl, by rw [hhalf.out], hK0, Nat.zero_le _, by rw [Nat.zero_add]; exact hpw.out, hL⟩
    case round =>
      obtain ⟨key, rfl, rfl, hsk, hkm, hk2, hLr⟩ := hrel
      obtain ⟨r0, r1, r2, r3⟩ := cells4 (hLr.get (P := pBlk w.heap.size #[.bool neg, .slice A n c, .int .i64 t, .int .i64 f] 52) (by repeat (first | exact List.mem_cons_self | apply List.mem_cons_of_mem)))
      have hq := hLr.get (P := pBlk g4 #[.int .i64 (fK id), .int .i64 (fW id), .int .i64 (fM id), .int .i64 (fB id), .int .u64 (fT id), .int .u64 (fI id), .int .u64 (fN id)] 25) (by repeat (first | exact List.mem_cons_self | apply List.mem_cons_of_mem))
      have s0 := hq.cell 0 _ rfl
      by_cases hg0 : gk = 0
      · subst hg0
        rw [show ((2 ^ 0 / 2 : Nat) : Int) = 0 from rfl]
        obtain rfl : key = K0 := hsk
        have hnc : (fK id == 1) = false ∧ nearK id neg P Q = key ∨ (fK id == 1) = true ∧ 0 < key ∧ nearK id neg P Q = key ∨ (fK id == 1) = true ∧ key = 0 ∧ decide (N = 0) = true ∧ nearK id neg P Q = 0 ∨ (fK id == 1) = true ∧ key = 0 ∧ decide (N = 0) = false ∧ nearK id neg P Q = 1 := by
          rw [hnk.out]
          by_cases k1 : fK id = 1
          · have k1' : (fK id == 1) = true := by simp [k1]
            by_cases k2 : key = 0
            · by_cases k3 : N = 0
              · exact .inr (.inr (.inl ⟨k1', k2, decide_eq_true k3, by rw [if_neg (fun h => h.2.2 (hP0.out.2 k3)), k2]⟩))
              · exact .inr (.inr (.inr ⟨k1', k2, decide_eq_false k3, by rw [if_pos ⟨k1, k2, fun h => k3 (hP0.out.1 h)⟩]⟩))
            · exact .inr (.inl ⟨k1', by omega, by rw [if_neg (fun h => k2 h.2.1)]⟩)
          · exact .inl ⟨by simp [k1], by rw [if_neg (fun h => k1 h.1)]⟩
        have hzr := Lib.hid (rzero_any neg t f (hLr.get (P := pT (.slice A n c) 128 N) (by repeat (first | exact List.mem_cons_self | apply List.mem_cons_of_mem))))
        clear hnk hP0 hwn hmo hfo hrt
        rcases hnc with ⟨k1, hn⟩ | ⟨k1, k2, hn⟩ | ⟨k1, rfl, k3, hn⟩ | ⟨k1, rfl, k3, hn⟩
        · replace hn := Lib.hid hn
          go_wp2
          rw [hn.out]
          go_ret3
          exact ⟨rfl, hLr.below⟩
        · replace hn := Lib.hid hn
          have k4 : ((key : Int) == 0) = false := by simp; omega
          go_wp2
          rw [hn.out]
          go_ret3
          exact ⟨rfl, hLr.below⟩
        · replace hn := Lib.hid hn
          replace k3 := Lib.hid k3
          go_wp2_with fail
          refine hzr.out.mono ?_
          rintro e u5 ⟨rfl, hb5⟩
          rw [k3.out]
          go_wp2
          rw [hn.out]
          go_ret3
          exact ⟨rfl, (hLr.go hb5).below⟩
        · replace hn := Lib.hid hn
          replace k3 := Lib.hid k3
          go_wp2_with fail
          refine hzr.out.mono ?_
          rintro e u5 ⟨rfl, hb5⟩
          rw [k3.out]
          go_wp2
          rw [hn.out]
          go_ret3
          exact ⟨rfl, (hLr.go hb5).below⟩
      · obtain ⟨k, rfl⟩ : ∃ k, gk = k + 1 := ⟨gk - 1, by omega⟩
        rw [show 2 ^ (k + 1) / 2 = 2 ^ k by rw [Nat.pow_succ]; omega]
        have hB2 : ((2 ^ k : Nat) : Int) / 2 = ((2 ^ k / 2 : Nat) : Int) := by push_cast; rfl
        have hBp := Nat.two_pow_pos k
        rw [Nat.pow_succ] at hk2
        unfold seek at hsk
        obtain ⟨B, hB⟩ : ∃ B, 2 ^ k = B := ⟨_, rfl⟩
        rw [hB] at hB2 hBp hk2 hsk ⊢
        replace hB2 := Lib.hid hB2
        replace hB := Lib.hid hB
        have hsub : (key : Int) + (B : Int) - 1 = ((key + B - 1 : Nat) : Int) := by omega
        replace hsub := Lib.hid hsub
        by_cases hle : key + B ≤ mN
        · cases hwb : wiF id P Q (key + B - 1) with
          | true =>
            rw [if_neg (fun h => by rw [hwb] at h; exact absurd h.2 (by decide))] at hsk
            replace hwb := Lib.hid hwb
            replace hsk := Lib.hid hsk
            go_wp2_with fail
            rw [hsub.out]
            refine (hwn.out _ (hW.below hLr.below) (hLr.get (P := pT (.slice A n c) 128 N) (by repeat (first | exact List.mem_cons_self | apply List.mem_cons_of_mem))) (key + B - 1) (by omega)).mono ?_
            rintro e u5 ⟨rfl, hb5⟩
            rw [hwb.out]
            go_wp2
            go_roundg k
            case measure => omega
            case rel => exact ⟨key, rfl, by rw [hB2.out, hB.out], hsk.out, hkm, by rw [hB.out]; omega, hLr.go hb5⟩
          | false =>
            rw [if_pos ⟨hle, hwb⟩] at hsk
            replace hwb := Lib.hid hwb
            replace hsk := Lib.hid hsk
            go_wp2_with fail
            rw [hsub.out]
            refine (hwn.out _ (hW.below hLr.below) (hLr.get (P := pT (.slice A n c) 128 N) (by repeat (first | exact List.mem_cons_self | apply List.mem_cons_of_mem))) (key + B - 1) (by omega)).mono ?_
            rintro e u5 ⟨rfl, hb5⟩
            rw [hwb.out]
            go_wp2
            go_roundg k
            case measure => omega
            case rel => exact ⟨key + B, by push_cast; rfl, by rw [hB2.out, hB.out], hsk.out, hle, by rw [hB.out]; omega, hLr.go hb5⟩
        · rw [if_neg (fun h => hle h.1)] at hsk
          replace hsk := Lib.hid hsk
          have hle1 : ¬ (key : Int) + (B : Int) ≤ (mN : Int) := by omega
          have hle2 : decide ((key : Int) + (B : Int) ≤ (mN : Int)) = false := decide_eq_false hle1
          go_wp2
          go_roundg k
          case measure => omega
          case rel => exact ⟨key, rfl, by rw [hB2.out, hB.out], hsk.out, hkm, by rw [hB.out]; omega, hLr⟩
end Go.Proofs.YtehpneojiinmdaaGreatDoor
namespace Go.Proofs.YtehpneojiinmdaaGreatDoor
open Go.RowKit Go.Cal
def limF (id : Int) : Nat := if fK id = 1 then 2 else 1
def limH (id : Int) (neg : Bool) (key : Nat) : Bool := decide ((key : Int) < mostV id neg) || decide (fK id ≠ 1 ∧ (fI id ≠ 0 ∨ fN id ≠ 0))
/-- What Limits tells. -/
def limV (id : Int) (neg : Bool) (key : Nat) : Itv :=
  ⟨if limF id ≤ key then (magV id 1 (2 * (key - 1) + 1)).1 else 0, if limF id ≤ key then (magV id 1 (2 * (key - 1) + 1)).2 else 0,
   if limH id neg key = true then (magV id 1 (2 * key + 1)).1 else 0, if limH id neg key = true then (magV id 1 (2 * key + 1)).2 else 0, key % 2 == 0⟩
theorem uN_top {id : Int} (h1 : 1 ≤ id) (h2 : id < 15) : uN (fK id).toNat (fW id).toNat (fM id).toNat (fB id).toNat (2 * (fitM id).toNat) < 2 ^ 4000 := by
  rcases id_cases h1 h2 with rfl | rfl | rfl | rfl | rfl | rfl | rfl | rfl | rfl | rfl | rfl | rfl | rfl | rfl <;> decide +kernel
theorem uN_le {id : Int} {i j : Nat} (h1 : 1 ≤ id) (h2 : id < 15) (h : i ≤ j) (hj : j ≤ 2 * (fitM id).toNat + 1) : uN (fK id).toNat (fW id).toNat (fM id).toNat (fB id).toNat (i) ≤ uN (fK id).toNat (fW id).toNat (fM id).toNat (fB id).toNat (j) := by
  rcases Nat.eq_or_lt_of_le h with h | h
  · rw [h]; exact Nat.le_refl _
  · obtain ⟨b1, b2, b3, b4, b5, b6, b7⟩ := fo_nat h1 h2 false
    refine Nat.le_of_lt (uN_mono (fun hk => ⟨by omega, b4, ?_⟩) b1 h)
    obtain ⟨_, _, c, _⟩ := mag_tab h1 h2
    have := (c (b5.1 hk)).1
    rw [show (fW id).toNat + 1 - 1 = (fW id).toNat by omega] at this
    omega
theorem uN_lt {id : Int} {i j : Nat} (h1 : 1 ≤ id) (h2 : id < 15) (h : i < j) (hj : j ≤ 2 * (fitM id).toNat + 1) : uN (fK id).toNat (fW id).toNat (fM id).toNat (fB id).toNat (i) < uN (fK id).toNat (fW id).toNat (fM id).toNat (fB id).toNat (j) := by
  obtain ⟨b1, b2, b3, b4, b5, b6, b7⟩ := fo_nat h1 h2 false
  refine uN_mono (fun hk => ⟨by omega, b4, ?_⟩) b1 h
  obtain ⟨_, _, c, _⟩ := mag_tab h1 h2
  have := (c (b5.1 hk)).1
  rw [show (fW id).toNat + 1 - 1 = (fW id).toNat by omega] at this
  omega
theorem sc_of {m u : Nat} {e : Int} (h0 : 0 ≤ (2000 : Int) + e) (h : m * 2 ^ ((2000 : Int) + e).toNat = u) : exP m e 0 * sc2 = u * exQ e 0 := by
  have e1 : exP m e 0 = m * 2 ^ e.toNat := by unfold exP; simp
  have e2 : exQ e 0 = 2 ^ (-e).toNat := by unfold exQ; simp
  have g0 : 2000 = (-e).toNat + (2000 - (-e).toNat) := by omega
  have g1 : ((2000 : Int) + e).toNat = e.toNat + (2000 - (-e).toNat) := by omega
  generalize hc : 2000 - (-e).toNat = c at g0 g1
  have hs : sc2 = 2 ^ (-e).toNat * 2 ^ c := by unfold sc2; rw [← Nat.pow_add, ← g0]
  rw [e1, e2, hs, ← h, g1, Nat.pow_add]
  ac_rfl
/-- A magnitude's own number, as Decode tells it. -/
theorem mag_range0 {id : Int} {key : Nat} (h1 : 1 ≤ id) (h2 : id < 15) (hk : (key : Int) ≤ fitM id) (h0 : fK id ≠ 4 → 0 < key) : 0 < (magV id 0 key).1 ∧ (magV id 0 key).1 < 18446744073709551616 ∧ -2000 ≤ (magV id 0 key).2 ∧ (magV id 0 key).2 ≤ 2000 ∧
    0 ≤ (2000 : Int) + (magV id 0 key).2 ∧ (magV id 0 key).1 * 2 ^ ((2000 : Int) + (magV id 0 key).2).toNat = uN (fK id).toNat (fW id).toNat (fM id).toNat (fB id).toNat (2 * key) := by
  obtain ⟨w1, w2, w3, w4, -⟩ := fo_wide h1 h2
  have hKn := fK_nat id
  have hKb := fK_bnd id
  obtain ⟨k0, kw, k1, k2, k4⟩ := mag_own h1 h2 hk (fun h => h0 (by omega))
  obtain ⟨c1, c2⟩ := numQ_two (fK id).toNat (fW id).toNat (fM id).toNat (fB id).toNat key (fun h => ⟨by omega, by omega, by have := (k1 (by omega)).1; exact this, by have := (k1 (by omega)).2; exact this⟩) (by omega)
  have hb : 0 < (numQ (fK id).toNat (fW id).toNat (fM id).toNat (fB id).toNat 0 key).1 ∧ (numQ (fK id).toNat (fW id).toNat (fM id).toNat (fB id).toNat 0 key).1 < 18446744073709551616 := by
    by_cases h4 : fK id = 4
    · have e : numQ (fK id).toNat (fW id).toNat (fM id).toNat (fB id).toNat 0 key = (1 + 2 * 0, ((key / 2 ^ 0 : Nat) : Int) - (fB id).toNat - ((0 : Nat) : Int)) := by
        unfold numQ
        rw [h4]; rfl
      rw [e]
      exact ⟨show 0 < 1 by decide, show 1 < 18446744073709551616 by decide⟩
    · obtain ⟨b1, b2, b3⟩ := numQ_bnd (kd := (fK id).toNat) (wd := (fW id).toNat) (mn := (fM id).toNat) (bs := (fB id).toNat) (j := key) (more := 0) (by decide) (h0 h4) kw
        (fun h => ⟨by omega, (k1 (by omega)).2⟩) w3 (fun h => k2 (by omega)) (fun h3 h4 h5 => by omega)
      exact ⟨b1, b2⟩
  obtain ⟨d1, d2, d3, d4⟩ := oddP_bnd (e := (numQ (fK id).toNat (fW id).toNat (fM id).toNat (fB id).toNat 0 key).2) hb.1 hb.2
  have hv := oddP_val (f := 64) (m := (numQ (fK id).toNat (fW id).toNat (fM id).toNat (fB id).toNat 0 key).1) (K := 2000) (e := (numQ (fK id).toNat (fW id).toNat (fM id).toNat (fB id).toNat 0 key).2) c1
  have e5 : 0 ≤ (2000 : Int) + (magV id 0 key).2 := by
    show 0 ≤ (2000 : Int) + (oddP 64 _ _).2
    omega
  have e6 : (magV id 0 key).1 * 2 ^ ((2000 : Int) + (magV id 0 key).2).toNat = uN (fK id).toNat (fW id).toNat (fM id).toNat (fB id).toNat (2 * key) := hv.trans c2
  have e1 : 0 < (magV id 0 key).1 := d1
  refine ⟨d1, d2, by omega, ?_, e5, e6⟩
  have hlt : 2 ^ ((2000 : Int) + (magV id 0 key).2).toNat < 2 ^ 4000 := by
    refine Nat.lt_of_le_of_lt ?_ (uN_top h1 h2)
    refine Nat.le_trans ?_ (uN_le h1 h2 (i := 2 * key) (by omega) (by omega))
    rw [← e6]
    exact Nat.le_mul_of_pos_left _ e1
  have := (Nat.pow_lt_pow_iff_right (a := 2) (by decide)).1 hlt
  omega
/-- Where nothing is left over, the digits lie in the interval. -/
theorem itv_own {id : Int} {neg : Bool} {key d : Nat} {k : Int} (hE : mostE id neg = 0) (hk : (key : Int) ≤ mostV id neg) (h0 : fK id ≠ 4 → 0 < key)
    (hd : exP d k k * exQ (magV id 0 key).2 0 = exP (magV id 0 key).1 (magV id 0 key).2 0 * exQ k k) : itvHas (limV id neg key) d k = true := by
  obtain ⟨h1, h2, h3⟩ := mostE_zero hE
  have hf := (most_fit hE).1
  obtain ⟨a1, a2, a3, a4, a5, a6⟩ := mag_range0 h1 h2 (by omega) h0
  have hs := sc_of a5 a6
  have hx : exP d k k * sc2 = uN (fK id).toNat (fW id).toNat (fM id).toNat (fB id).toNat (2 * key) * exQ k k := by
    refine Nat.eq_of_mul_eq_mul_right (exQ_pos (magV id 0 key).2 0) ?_
    rw [Nat.mul_right_comm (exP d k k), hd, Nat.mul_right_comm (exP (magV id 0 key).1 (magV id 0 key).2 0), hs, Nat.mul_right_comm]
  have hq := exQ_pos k k
  unfold itvHas
  rw [Bool.and_eq_true]
  constructor
  · by_cases hF : limF id ≤ key
    · have e1 : (limV id neg key).lowN = (magV id 1 (2 * (key - 1) + 1)).1 := if_pos hF
      have e2 : (limV id neg key).lowT = (magV id 1 (2 * (key - 1) + 1)).2 := if_pos hF
      have hF1 : 1 ≤ key := by unfold limF at hF; split at hF <;> omega
      obtain ⟨m1, -, -, -, m5, m6⟩ := mag_range (key := key - 1) h1 h2 (by omega)
      obtain ⟨x1, x2⟩ := exC_wi (N := d) (t := k) (f := k) m5 m6
      rw [e1, e2]
      have hlt : uN (fK id).toNat (fW id).toNat (fM id).toNat (fB id).toNat (2 * (key - 1) + 1) * exQ k k < exP d k k * sc2 := by
        rw [hx]; exact Nat.mul_lt_mul_of_pos_right (uN_lt h1 h2 (by clear hx hd a6 m6 x1 x2; omega) (by clear hx hd a6 m6 x1 x2; omega)) hq
      have n1 : ¬ exC d k k (magV id 1 (2 * (key - 1) + 1)).1 (magV id 1 (2 * (key - 1) + 1)).2 0 < 0 := fun h => absurd (x1.1 h) (Nat.not_lt.2 (Nat.le_of_lt hlt))
      have n2 : ¬ exC d k k (magV id 1 (2 * (key - 1) + 1)).1 (magV id 1 (2 * (key - 1) + 1)).2 0 = 0 := fun h => absurd (x2.1 h) (Nat.ne_of_gt hlt)
      rw [Bool.or_eq_true, decide_eq_true_eq]
      clear hlt x1 x2 hx hs hd a6 m6
      left; omega
    · have e1 : (limV id neg key).lowN = 0 := if_neg hF
      have e2 : (limV id neg key).lowT = 0 := if_neg hF
      have hd0 : 0 < d := by
        rcases Nat.eq_zero_or_pos d with h | h
        · subst h
          have hp := Nat.mul_pos (exP_pos (magV id 0 key).2 0 a1) hq
          rw [← hd] at hp
          clear hx hs a6 hd
          simp [exP] at hp
        · exact h
      rw [e1, e2, exC_zero_r, cmpV_gt (a := (d : Int)) (b := 0) (by omega)]
      rfl
  · by_cases hH : limH id neg key = true
    · have e1 : (limV id neg key).highN = (magV id 1 (2 * key + 1)).1 := if_pos hH
      have e2 : (limV id neg key).highT = (magV id 1 (2 * key + 1)).2 := if_pos hH
      obtain ⟨m1, -, -, -, m5, m6⟩ := mag_range (key := key) h1 h2 (by omega)
      obtain ⟨x1, x2⟩ := exC_wi (N := d) (t := k) (f := k) m5 m6
      rw [e1, e2, if_pos m1]
      have hlt : exP d k k * sc2 < uN (fK id).toNat (fW id).toNat (fM id).toNat (fB id).toNat (2 * key + 1) * exQ k k := by
        rw [hx]; exact Nat.mul_lt_mul_of_pos_right (uN_lt h1 h2 (by clear hx hd a6 m6 x1 x2; omega) (by clear hx hd a6 m6 x1 x2; omega)) hq
      rw [Bool.or_eq_true, decide_eq_true_eq]
      exact .inl (x1.2 hlt)
    · have e1 : (limV id neg key).highN = 0 := if_neg hH
      rw [e1]
      rfl
end Go.Proofs.YtehpneojiinmdaaGreatDoor
namespace Go.Cal
/-- Where the search begins. -/
def lgS (N : Nat) (t : Int) : Int := if 0 ≤ ((exS (bl N) t 0 + 6) * 30103).tdiv 100000 then ((exS (bl N) t 0 + 6) * 30103).tdiv 100000 + 1 else ((exS (bl N) t 0 + 6) * 30103).tdiv 100000
/-- From a power of ten down. -/
def seekL (N : Nat) (t : Int) : Nat → Int → Int
  | 0, k => k
  | f + 1, k => if exC N t 0 1 k k < 0 then seekL N t f (k - 1) else k
/-- What Log10 tells. -/
def lgV (N : Nat) (t : Int) : Int := seekL N t 6000 (lgS N t)
theorem lgS_bnd {N : Nat} {t : Int} (hN : N < 2 ^ 64) (ht : -2000 ≤ t ∧ t ≤ 2000) : -700 ≤ lgS N t ∧ lgS N t ≤ 700 := by
  have hb : bl N ≤ 64 := bl_iff.2 hN
  have hS : exS (bl N) t 0 = (bl N : Int) + t := by unfold exS; simp
  unfold lgS
  rw [hS]
  generalize bl N = b at hb ⊢
  have h1 : (((b : Int) + t + 6) * 30103).tdiv 100000 ≤ 640 := by
    rcases Int.le_total 0 (((b : Int) + t + 6) * 30103) with h | h
    · rw [Int.tdiv_eq_ediv_of_nonneg h]; omega
    · have e : (((b : Int) + t + 6) * 30103) = -(-(((b : Int) + t + 6) * 30103)) := by omega
      rw [e, Int.neg_tdiv, Int.tdiv_eq_ediv_of_nonneg (by omega)]
      omega
  have h2 : -640 ≤ (((b : Int) + t + 6) * 30103).tdiv 100000 := by
    rcases Int.le_total 0 (((b : Int) + t + 6) * 30103) with h | h
    · have := Int.tdiv_nonneg h (show (0 : Int) ≤ 100000 by decide); omega
    · have e : (((b : Int) + t + 6) * 30103) = -(-(((b : Int) + t + 6) * 30103)) := by omega
      rw [e, Int.neg_tdiv, Int.tdiv_eq_ediv_of_nonneg (by omega)]
      omega
  split <;> omega
theorem exC_low {N : Nat} {t k : Int} (hN : 0 < N) (hk : k ≤ t) (hk0 : k ≤ 0) : ¬ exC N t 0 1 k k < 0 := by
  unfold exC
  have h1 : exP 1 k k * exQ t 0 ≤ exP N t 0 * exQ k k := by
    unfold exP exQ
    rw [show k.toNat = 0 by omega]
    simp only [Nat.pow_zero, Nat.mul_one, Int.toNat_zero, Int.neg_zero, Nat.one_mul]
    have h5 : 1 ≤ 5 ^ (-k).toNat := Nat.one_le_pow _ _ (by decide)
    have h2 : 2 ^ (-t).toNat ≤ 2 ^ t.toNat * 2 ^ (-k).toNat := by
      rw [← Nat.pow_add]; exact Nat.pow_le_pow_right (by decide) (by omega)
    calc 2 ^ (-t).toNat ≤ 2 ^ t.toNat * 2 ^ (-k).toNat := h2
      _ ≤ N * (2 ^ t.toNat * 2 ^ (-k).toNat) := Nat.le_mul_of_pos_left _ hN
      _ ≤ N * (2 ^ t.toNat * 2 ^ (-k).toNat) * 5 ^ (-k).toNat := Nat.le_mul_of_pos_right _ h5
      _ = N * 2 ^ t.toNat * (5 ^ (-k).toNat * 2 ^ (-k).toNat) := by ac_rfl
  rcases cmpV_cases ((exP N t 0 * exQ k k : Nat) : Int) ((exP 1 k k * exQ t 0 : Nat) : Int) with ⟨h, hv⟩ | ⟨h, hv⟩ | ⟨h, hv⟩
  · omega
  · rw [hv]; decide
  · rw [hv]; decide
theorem seekL_is {N : Nat} {t : Int} (hN : 0 < N) : ∀ (f : Nat) (k kx : Int), k - kx < f → 0 < f → kx ≤ t → kx ≤ 0 → ∃ k', seekL N t f k = k' ∧ k' ≤ k ∧ min k kx ≤ k'
  | 0, k, kx, _, h0, _, _ => by omega
  | f + 1, k, kx, hf, _, hx, hx0 => by
    unfold seekL
    by_cases hc : exC N t 0 1 k k < 0
    · rw [if_pos hc]
      have hk : kx < k := Classical.byContradiction fun h => exC_low hN (by omega) (by omega) hc
      obtain ⟨k', h1, h2, h3⟩ := seekL_is hN f (k - 1) kx (by omega) (by omega) hx hx0
      exact ⟨k', h1, by omega, by omega⟩
    · rw [if_neg hc]
      exact ⟨k, rfl, Int.le_refl _, by omega⟩
theorem lgV_bnd {N : Nat} {t : Int} (h0 : 0 < N) (hN : N < 2 ^ 64) (ht : -2000 ≤ t ∧ t ≤ 2000) : -2000 ≤ lgV N t ∧ lgV N t ≤ 700 := by
  obtain ⟨b1, b2⟩ := lgS_bnd hN ht
  obtain ⟨k', h1, h2, h3⟩ := seekL_is h0 (t := t) 6000 (lgS N t) (min t 0) (by omega) (by decide) (by omega) (by omega)
  unfold lgV
  omega
end Go.Cal
namespace Go.Proofs.YtehpneojiinmdaaGreatDoor
open Go.RowKit Go.Cal
theorem of_oneS (w : World) : Calls Tryz.prog 17 #[.int .u64 1] w fun e w' => ∃ A n c, e = .returned (.slice A n c) ∧ IsT w' (.slice A n c) 1 1 ∧ Below w.heap.size w w' :=
  (of_one w).mono fun e w' h => by
    obtain ⟨v, rfl, hv, hb⟩ := h
    obtain ⟨A, c, z, rfl, -⟩ := id hv
    exact ⟨A, _, c, rfl, hv, hb⟩
section
variable {w W W' : World} {neg : Bool} {A : Option Addr} {n c N : Nat} {t : Int}
theorem boxL (h : LiveP w W [pT (.slice A n c) 128 N, pBlk w.heap.size #[.bool neg, .slice A n c, .int .i64 t, .int .i64 0] 52]) : LiveP w W [pT (.slice A n c) 128 N, pBlk w.heap.size #[.bool neg, .slice A n c, .int .i64 t, .int .i64 0] 52] ∧ w.heap.size < (W).heap.size ∧ (W).cell? ⟨w.heap.size, 0, none⟩ = some (.bool neg) ∧ (W).cell? ⟨w.heap.size, 1, none⟩ = some (.slice A n c) ∧ (W).cell? ⟨w.heap.size, 2, none⟩ = some (.int .i64 t) ∧ (W).cell? ⟨w.heap.size, 3, none⟩ = some (.int .i64 0) := by
  have p1 := h.get (P := pBlk w.heap.size #[.bool neg, .slice A n c, .int .i64 t, .int .i64 0] 52) (by repeat (first | exact List.mem_cons_self | apply List.mem_cons_of_mem))
  exact ⟨h, p1.lt, p1.cell 0 _ rfl, p1.cell 1 _ rfl, p1.cell 2 _ rfl, p1.cell 3 _ rfl⟩
theorem keepL (h : LiveP w W [pT (.slice A n c) 128 N, pBlk w.heap.size #[.bool neg, .slice A n c, .int .i64 t, .int .i64 0] 52] ∧ w.heap.size < (W).heap.size ∧ (W).cell? ⟨w.heap.size, 0, none⟩ = some (.bool neg) ∧ (W).cell? ⟨w.heap.size, 1, none⟩ = some (.slice A n c) ∧ (W).cell? ⟨w.heap.size, 2, none⟩ = some (.int .i64 t) ∧ (W).cell? ⟨w.heap.size, 3, none⟩ = some (.int .i64 0)) (hb : Below W.heap.size W W') : LiveP w W' [pT (.slice A n c) 128 N, pBlk w.heap.size #[.bool neg, .slice A n c, .int .i64 t, .int .i64 0] 52] ∧ w.heap.size < (W').heap.size ∧ (W').cell? ⟨w.heap.size, 0, none⟩ = some (.bool neg) ∧ (W').cell? ⟨w.heap.size, 1, none⟩ = some (.slice A n c) ∧ (W').cell? ⟨w.heap.size, 2, none⟩ = some (.int .i64 t) ∧ (W').cell? ⟨w.heap.size, 3, none⟩ = some (.int .i64 0) := boxL (h.1.go hb)
theorem cmpL {A3 : Option Addr} {m3 c3 : Nat} {k : Int} (h : LiveP w W [pT (.slice A n c) 128 N, pBlk w.heap.size #[.bool neg, .slice A n c, .int .i64 t, .int .i64 0] 52] ∧ w.heap.size < (W).heap.size ∧ (W).cell? ⟨w.heap.size, 0, none⟩ = some (.bool neg) ∧ (W).cell? ⟨w.heap.size, 1, none⟩ = some (.slice A n c) ∧ (W).cell? ⟨w.heap.size, 2, none⟩ = some (.int .i64 t) ∧ (W).cell? ⟨w.heap.size, 3, none⟩ = some (.int .i64 0)) (hv : IsT W (.slice A3 m3 c3) 1 1) (ht : -5000 ≤ t ∧ t ≤ 5000) (hk : -5000 ≤ k ∧ k ≤ 5000) :
    Calls Tryz.prog 67 #[.agg #[.bool neg, .slice A n c, .int .i64 t, .int .i64 0], .agg #[.bool false, .slice A3 m3 c3, .int .i64 k, .int .i64 k]] W fun e w' => e = .returned (.int .i64 (exC N t 0 1 k k)) ∧ Below W.heap.size W w' :=
  xcmp_any neg false t k 0 k (h.1.get (P := pT (.slice A n c) 128 N) (by repeat (first | exact List.mem_cons_self | apply List.mem_cons_of_mem))) (isT_fitX hv (by decide +kernel)) ht hk ⟨by decide, by decide⟩ hk
end
theorem run_max4 (x : Int) (h : -2000 ≤ x ∧ x ≤ 2000) : ∃ mx : Int, (∀ (ts : Array TypeId) (ty : TypeId) (w : World), (Builtin.max_ ts ty #[.int .i64 x, .int .i64 (-x), .int .i64 0, .int .i64 0]).run Tryz.prog w = .ok (.int .i64 mx) w) ∧ 0 ≤ mx ∧ mx ≤ 2000 := by
  by_cases h0 : 0 ≤ x
  · refine ⟨x, fun ts ty w => ?_, h0, h.2⟩
    simp [Builtin.max_, Builtin.max2]
    repeat' split
    all_goals (first | rfl | omega | (simp; omega))
  · refine ⟨-x, fun ts ty w => ?_, by omega, by omega⟩
    simp [Builtin.max_, Builtin.max2]
    repeat' split
    all_goals (first | rfl | omega | (simp; omega))
set_option maxRecDepth 100000 in
set_option maxHeartbeats 2000000 in
theorem xlog_any {w : World} {A : Option Addr} {n c N : Nat} (neg : Bool) (t : Int) (h : IsT w (.slice A n c) 128 N) (h0 : 0 < N) (hN : N < 2 ^ 64) (ht : -2000 ≤ t ∧ t ≤ 2000) :
    Calls Tryz.prog 131 #[.agg #[.bool neg, .slice A n c, .int .i64 t, .int .i64 0]] w fun e w' => e = .returned (.int .i64 (lgV N t)) ∧ Below w.heap.size w w' := by
  have hb0 := (Below.refl w.heap.size w).alloc (Nat.le_refl _) (.cells #[.bool neg, .slice A n c, .int .i64 t, .int .i64 0] 52)
  have hL := (((LiveP.start w).go hb0).put (pBlk_st _ _ _) (pBlk_made w #[.bool neg, .slice A n c, .int .i64 t, .int .i64 0] 52)).put (pT_st (.slice A n c) 128 N) (h.below hb0)
  have hX := pBlk_made w #[.bool neg, .slice A n c, .int .i64 t, .int .i64 0] 52
  have hbl : ((blen N : Nat) : Int) ≠ 0 := by
    have := (blen_bnd h0).1
    intro h
    have h2 : blen N = 0 := by omega
    rw [h2] at this
    simp at this
    omega
  have hbl' : (((blen N : Nat) : Int) == 0) = false := by simpa using hbl
  obtain ⟨mx, hmx, hm0, hm1⟩ := run_max4 t ht
  have hmn : ¬ 20000 < mx := by omega
  obtain ⟨s, hs⟩ : ∃ s, exS (blen N) t 0 = s := ⟨_, rfl⟩
  have hsb : -2000 ≤ s ∧ s ≤ 2064 := by
    have hb : blen N ≤ 64 := by rw [blen_bl]; exact bl_iff.2 hN
    rw [← hs]; unfold exS; simp; omega
  obtain ⟨k0, hk0⟩ : ∃ k0, ((s + 6) * 30103).tdiv 100000 = k0 := ⟨_, rfl⟩
  have hlg : lgS N t = if 0 ≤ k0 then k0 + 1 else k0 := by
    unfold lgS; rw [← hk0, ← hs]; rfl
  have hlb := lgS_bnd hN ht
  have hk0b : -700 ≤ k0 ∧ k0 ≤ 700 := by
    rw [hlg] at hlb
    split at hlb <;> omega
  obtain ⟨R, hR⟩ : ∃ R, seekL N t 6000 (lgS N t) = R := ⟨_, rfl⟩
  have hRV : lgV N t = R := hR
  rw [hRV]
  obtain ⟨kx, hkx⟩ : ∃ kx, min t 0 = kx := ⟨_, rfl⟩
  obtain ⟨ht1, ht2⟩ := ht
  have hkx1 : -2000 ≤ kx ∧ kx ≤ t ∧ kx ≤ 0 := by omega
  obtain ⟨hkx1, hkx2, hkx3⟩ := hkx1
  obtain ⟨hsb1, hsb2⟩ := hsb
  obtain ⟨hk0b1, hk0b2⟩ := hk0b
  replace hlg := Lib.hid hlg
  replace hR := Lib.hid hR
  clear hlb hRV hkx
  go_enter Tryz.func131, Tryz.ntmps131
  go_wp2_with fail
  refine (bits_b (hL.get (P := pT (.slice A n c) 128 N) (by repeat (first | exact List.mem_cons_self | apply List.mem_cons_of_mem)))).mono ?_
  rintro e w1 ⟨rfl, hb⟩
  replace hL := hL.go hb
  clear hb hX
  obtain ⟨r0, r1, r2, r3⟩ := cells4 (hL.get (P := pBlk w.heap.size #[.bool neg, .slice A n c, .int .i64 t, .int .i64 0] 52) (by repeat (first | exact List.mem_cons_self | apply List.mem_cons_of_mem)))
  go_wp2_with fail
  have hsz := xsize_any neg t 0 (hL.get (P := pT (.slice A n c) 128 N) (by repeat (first | exact List.mem_cons_self | apply List.mem_cons_of_mem))) (by omega) (by omega)
  rw [hs] at hsz
  refine hsz.mono ?_
  rintro e w2 ⟨rfl, hb⟩
  replace hL := hL.go hb
  clear hb hsz r0 r1 r2 r3
  by_cases hk : 0 ≤ k0
  · have hks : lgS N t = k0 + 1 := by rw [hlg.out, if_pos hk]
    have hR2 := hR.out
    rw [hks] at hR2
    replace hR2 := Lib.hid hR2
    go_wp2_with fail
    go_loopg [3] 6000 (fun g kv wr => ∃ k : Int, kv = .int .i64 k ∧ seekL N t g k = R ∧ -2000 ≤ k ∧ k ≤ 800 ∧ k - kx < g ∧ 0 < g ∧ LiveP w wr [pT (.slice A n c) 128 N, pBlk w.heap.size #[.bool neg, .slice A n c, .int .i64 t, .int .i64 0] 52])
    case atStart => exact ⟨k0 + 1, rfl, hR2.out, by omega, by omega, by omega, by decide, hL.keep (by simp)⟩
    case round =>
      obtain ⟨k, rfl, hsk, hk1, hk2, hk3, hk4, hL⟩ := hrel
      have hS0 := boxL (hL.go (Below.refl _ _).drew)
      obtain ⟨cv, hcv⟩ : ∃ cv, exC N t 0 1 k k = cv := ⟨_, rfl⟩
      have hstep : (cv < 0 ∧ 0 < gk - 1 ∧ kx < k ∧ seekL N t (gk - 1) (k - 1) = R) ∨ (¬ cv < 0 ∧ k = R) := by
        obtain ⟨f, rfl⟩ : ∃ f, gk = f + 1 := ⟨gk - 1, by omega⟩
        unfold seekL at hsk
        rw [hcv] at hsk
        by_cases h : cv < 0
        · rw [if_pos h] at hsk
          have hk : kx < k := Classical.byContradiction fun h' => exC_low h0 (by omega) (by omega) (hcv ▸ h)
          exact .inl ⟨h, by omega, hk, hsk⟩
        · rw [if_neg h] at hsk
          exact .inr ⟨h, hsk⟩
      have hcm := fun (W : World) A3 m3 c3 (h : LiveP w W [pT (.slice A n c) 128 N, pBlk w.heap.size #[.bool neg, .slice A n c, .int .i64 t, .int .i64 0] 52] ∧ w.heap.size < (W).heap.size ∧ (W).cell? ⟨w.heap.size, 0, none⟩ = some (.bool neg) ∧ (W).cell? ⟨w.heap.size, 1, none⟩ = some (.slice A n c) ∧ (W).cell? ⟨w.heap.size, 2, none⟩ = some (.int .i64 t) ∧ (W).cell? ⟨w.heap.size, 3, none⟩ = some (.int .i64 0)) (hv : IsT W (.slice A3 m3 c3) 1 1) => cmpL (k := k) h hv ⟨by omega, by omega⟩ ⟨by omega, by omega⟩
      rw [hcv] at hcm
      replace hcm := Lib.hid hcm
      replace hcv := Lib.hid hcv
      replace hstep := Lib.hid hstep
      go_wp2_with fail
      go_region_held3 (fun w' => LiveP w w' [pT (.slice A n c) 128 N, pBlk w.heap.size #[.bool neg, .slice A n c, .int .i64 t, .int .i64 0] 52] ∧ w.heap.size < (w').heap.size ∧ (w').cell? ⟨w.heap.size, 0, none⟩ = some (.bool neg) ∧ (w').cell? ⟨w.heap.size, 1, none⟩ = some (.slice A n c) ∧ (w').cell? ⟨w.heap.size, 2, none⟩ = some (.int .i64 t) ∧ (w').cell? ⟨w.heap.size, 3, none⟩ = some (.int .i64 0)) (first | exact hS0 | with_reducible assumption | exact keepL (by with_reducible assumption) (by with_reducible assumption))
        (first
          | (go_at_call 17; with_reducible refine (of_oneS _).mono ?_; rintro e w4 ⟨A4, n4, c4, rfl, hv4, hb4⟩)
          | (go_at_call 67; with_reducible refine (hcm.out _ _ _ _ (by with_reducible assumption) hv4).mono ?_; rintro e w5 ⟨rfl, hb5⟩))
      have hq : LiveP w w5 [pT (.slice A n c) 128 N, pBlk w.heap.size #[.bool neg, .slice A n c, .int .i64 t, .int .i64 0] 52] ∧ w.heap.size < (w5).heap.size ∧ (w5).cell? ⟨w.heap.size, 0, none⟩ = some (.bool neg) ∧ (w5).cell? ⟨w.heap.size, 1, none⟩ = some (.slice A n c) ∧ (w5).cell? ⟨w.heap.size, 2, none⟩ = some (.int .i64 t) ∧ (w5).cell? ⟨w.heap.size, 3, none⟩ = some (.int .i64 0) := by with_reducible assumption
      have hL5 := hq.1
      clear hq
      rcases hstep.out with ⟨s1, s2, s3, s4⟩ | ⟨s1, rfl⟩
      · go_wp2
        go_roundg (gk - 1)
        case measure => omega
        case rel => exact ⟨k - 1, rfl, s4, by omega, by omega, by omega, s2, hL5⟩
      · go_wp2
        go_ret
        exact ⟨rfl, hL5.below⟩
  · have hks : lgS N t = k0 := by rw [hlg.out, if_neg hk]
    have hR2 := hR.out
    rw [hks] at hR2
    replace hR2 := Lib.hid hR2
    go_wp2_with fail
    go_loopg [3] 6000 (fun g kv wr => ∃ k : Int, kv = .int .i64 k ∧ seekL N t g k = R ∧ -2000 ≤ k ∧ k ≤ 800 ∧ k - kx < g ∧ 0 < g ∧ LiveP w wr [pT (.slice A n c) 128 N, pBlk w.heap.size #[.bool neg, .slice A n c, .int .i64 t, .int .i64 0] 52])
    case atStart => exact ⟨k0, rfl, hR2.out, by omega, by omega, by omega, by decide, hL.keep (by simp)⟩
    case round =>
      obtain ⟨k, rfl, hsk, hk1, hk2, hk3, hk4, hL⟩ := hrel
      have hS0 := boxL (hL.go (Below.refl _ _).drew)
      obtain ⟨cv, hcv⟩ : ∃ cv, exC N t 0 1 k k = cv := ⟨_, rfl⟩
      have hstep : (cv < 0 ∧ 0 < gk - 1 ∧ kx < k ∧ seekL N t (gk - 1) (k - 1) = R) ∨ (¬ cv < 0 ∧ k = R) := by
        obtain ⟨f, rfl⟩ : ∃ f, gk = f + 1 := ⟨gk - 1, by omega⟩
        unfold seekL at hsk
        rw [hcv] at hsk
        by_cases h : cv < 0
        · rw [if_pos h] at hsk
          have hk : kx < k := Classical.byContradiction fun h' => exC_low h0 (by omega) (by omega) (hcv ▸ h)
          exact .inl ⟨h, by omega, hk, hsk⟩
        · rw [if_neg h] at hsk
          exact .inr ⟨h, hsk⟩
      have hcm := fun (W : World) A3 m3 c3 (h : LiveP w W [pT (.slice A n c) 128 N, pBlk w.heap.size #[.bool neg, .slice A n c, .int .i64 t, .int .i64 0] 52] ∧ w.heap.size < (W).heap.size ∧ (W).cell? ⟨w.heap.size, 0, none⟩ = some (.bool neg) ∧ (W).cell? ⟨w.heap.size, 1, none⟩ = some (.slice A n c) ∧ (W).cell? ⟨w.heap.size, 2, none⟩ = some (.int .i64 t) ∧ (W).cell? ⟨w.heap.size, 3, none⟩ = some (.int .i64 0)) (hv : IsT W (.slice A3 m3 c3) 1 1) => cmpL (k := k) h hv ⟨by omega, by omega⟩ ⟨by omega, by omega⟩
      rw [hcv] at hcm
      replace hcm := Lib.hid hcm
      replace hcv := Lib.hid hcv
      replace hstep := Lib.hid hstep
      go_wp2_with fail
      go_region_held3 (fun w' => LiveP w w' [pT (.slice A n c) 128 N, pBlk w.heap.size #[.bool neg, .slice A n c, .int .i64 t, .int .i64 0] 52] ∧ w.heap.size < (w').heap.size ∧ (w').cell? ⟨w.heap.size, 0, none⟩ = some (.bool neg) ∧ (w').cell? ⟨w.heap.size, 1, none⟩ = some (.slice A n c) ∧ (w').cell? ⟨w.heap.size, 2, none⟩ = some (.int .i64 t) ∧ (w').cell? ⟨w.heap.size, 3, none⟩ = some (.int .i64 0)) (first | exact hS0 | with_reducible assumption | exact keepL (by with_reducible assumption) (by with_reducible assumption))
        (first
          | (go_at_call 17; with_reducible refine (of_oneS _).mono ?_; rintro e w4 ⟨A4, n4, c4, rfl, hv4, hb4⟩)
          | (go_at_call 67; with_reducible refine (hcm.out _ _ _ _ (by with_reducible assumption) hv4).mono ?_; rintro e w5 ⟨rfl, hb5⟩))
      have hq : LiveP w w5 [pT (.slice A n c) 128 N, pBlk w.heap.size #[.bool neg, .slice A n c, .int .i64 t, .int .i64 0] 52] ∧ w.heap.size < (w5).heap.size ∧ (w5).cell? ⟨w.heap.size, 0, none⟩ = some (.bool neg) ∧ (w5).cell? ⟨w.heap.size, 1, none⟩ = some (.slice A n c) ∧ (w5).cell? ⟨w.heap.size, 2, none⟩ = some (.int .i64 t) ∧ (w5).cell? ⟨w.heap.size, 3, none⟩ = some (.int .i64 0) := by with_reducible assumption
      have hL5 := hq.1
      clear hq
      rcases hstep.out with ⟨s1, s2, s3, s4⟩ | ⟨s1, rfl⟩
      · go_wp2
        go_roundg (gk - 1)
        case measure => omega
        case rel => exact ⟨k - 1, rfl, s4, by omega, by omega, by omega, s2, hL5⟩
      · go_wp2
        go_ret
        exact ⟨rfl, hL5.below⟩
end Go.Proofs.YtehpneojiinmdaaGreatDoor
namespace Go.Proofs.YtehpneojiinmdaaGreatDoor
open Go.RowKit Go.Cal
set_option maxRecDepth 100000 in
set_option maxHeartbeats 1000000 in
theorem ten_any {w : World} {d : Value} {m N : Nat} (k : Int) (h : IsN w d m N) (hm : m ≤ 1048576) (hN : N < 18446744073709551616 ^ 128) (hk : -5000 ≤ k ∧ k ≤ 5000) :
    Calls Tryz.prog 164 #[d, .int .i64 k] w fun e w' => ∃ A n c, e = .returned (.agg #[.bool false, .slice A n c, .int .i64 k, .int .i64 k]) ∧ IsT w' (.slice A n c) 128 N ∧ Below w.heap.size w w' := by
  have hdc := Lib.hid fun (W : World) (h : IsN W d m N) => xdec_yes false k h hm hN hk
  obtain ⟨A0, c0, z0, rfl, -⟩ := id h
  clear hN
  go_enter Tryz.func164, Tryz.ntmps164
  go_wp2_with fail
  refine (hdc.out _ (h.below ((Below.refl _ _).alloc (Nat.le_refl _) _))).mono ?_
  rintro e w1 ⟨v, rfl, hv, hb⟩
  obtain ⟨A, c, zs, rfl, -⟩ := id hv
  obtain ⟨n, hn⟩ : ∃ n, zs.length = n := ⟨_, rfl⟩
  rw [hn] at hv ⊢
  clear hn hdc
  have hz := hb.size
  simp at hz
  have hp0 := pBlk_st _ _ _ _ _ (pBlk_st _ _ _ _ _ (pBlk_made w #[.bool false, .slice none 0 0, .int .i64 0, .int .i64 0] 52) hb) ((Below.refl _ _).alloc (Nat.le_refl _) (.cells #[.bool false, .slice A n c, .int .i64 k, .int .i64 k] 52))
  have hv1 := hv.below ((Below.refl _ _).alloc (Nat.le_refl _) (.cells #[.bool false, .slice A n c, .int .i64 k, .int .i64 k] 52))
  go_wp2_with ((with_reducible show wpList _ _ _ (Oper.mk _ (Op.store 52 _ _) _ _ _ _ :: _) _ _); refine wpList_store_each _ rfl 52 _ _ rfl w.heap.size #[.bool false, .slice A n c, .int .i64 k, .int .i64 k] #[.bool false, .slice none 0 0, .int .i64 0, .int .i64 0] 52 rfl rfl hp0 exact_size rfl (by simp [Value.oneCell']) (noU4 _ _ _ _ _ _) ?_; intro w2 hp2 hb2 hz2 hk2 ho2; obtain ⟨s0, s1, s2, s3⟩ := cells4 hp2)
  exact bodyPost_ret (v := .agg #[.bool false, .slice A n c, .int .i64 k, .int .i64 k]) (by simp [results, Tryz.results164, go_sem, s0, s1, s2, s3]) rfl ⟨A, n, c, rfl, hk2 _ _ _ hv1, (((Below.refl _ _).alloc (Nat.le_refl _) _).trans (hb.mono (by simp))).trans ((((Below.refl _ _).alloc (Nat.le_refl _) _).mono (by omega)).trans hb2)⟩
theorem cells3 {w : World} {g : Nat} {a b c : Value} {t : TypeId} (hp : pBlk g #[a, b, c] t w) :
    w.cell? ⟨g, 0, none⟩ = some a ∧ w.cell? ⟨g, 1, none⟩ = some b ∧ w.cell? ⟨g, 2, none⟩ = some c := ⟨hp.cell 0 _ rfl, hp.cell 1 _ rfl, hp.cell 2 _ rfl⟩
set_option maxRecDepth 100000 in
set_option maxHeartbeats 1000000 in
theorem digits_any {w : World} {A : Option Addr} {n c m N : Nat} (neg : Bool) (k : Int) (h : IsT w (.slice A n c) m N) (hm : m ≤ 1048576) (h0 : 0 < N) (F : Nat) (hF : F ≤ 3000) (hN : N < 10 ^ F) (hk : -5000 ≤ k ∧ k ≤ 5000) :
    Calls Tryz.prog 80 #[.bool neg, .slice A n c, .int .i64 k] w fun e w' => ∃ A' n' c', e = .returned (.agg #[.bool neg, .slice A' n' c', .int .i64 (stripV F N k).2]) ∧ IsT w' (.slice A' n' c') m (stripV F N k).1 ∧ Below w.heap.size w w' := by
  obtain ⟨R, hR⟩ : ∃ R, stripV F N k = R := ⟨_, rfl⟩
  rw [hR]
  have hb0 := (Below.refl w.heap.size w).alloc (Nat.le_refl _) (.cells #[.bool false, .slice none 0 0, .int .i64 0] 81)
  have hL := (LiveP.start w).go hb0
  have hL := hL.put (pBlk_st _ _ _) (pBlk_made w #[.bool false, .slice none 0 0, .int .i64 0] 81)
  have hv0 := h.below hb0
  have hN1 := hN
  replace hR := Lib.hid hR
  replace hN1 := Lib.hid hN1
  clear hN h hb0
  go_enter Tryz.func80, Tryz.ntmps80
  go_wp2_with fail
  go_loopg [1, 2] F (fun g dv kv wr => ∃ (A1 : Option Addr) (n1 c1 N1 : Nat) (k1 : Int), dv = .slice A1 n1 c1 ∧ kv = .int .i64 k1 ∧ stripV g N1 k1 = R ∧ 0 < N1 ∧ Hid (N1 < 10 ^ g) ∧ -5000 ≤ k1 ∧ k1 + g ≤ 8001 ∧ IsT wr (.slice A1 n1 c1) m N1 ∧ LiveP w wr [pBlk w.heap.size #[.bool false, .slice none 0 0, .int .i64 0] 81])
  case atStart => exact ⟨A, n, c, N, k, rfl, rfl, hR.out, h0, hN1, by omega, by omega, hv0, hL⟩
  case round =>
    obtain ⟨A1, n1, c1, N1, k1, rfl, rfl, hs, hp, hlt, hk1, hk2, hv1, hL⟩ := hrel
    obtain ⟨f, rfl⟩ : ∃ f, gk = f + 1 := by
      rcases gk with _ | f
      · have := hlt.out; simp at this; omega
      · exact ⟨f, rfl⟩
    have hn1 : 0 < n1 := by rcases isT_zero hv1 with ⟨a, b⟩ | ⟨a, b⟩ <;> omega
    have hn1' : ((n1 : Int) == 0) = false := by simp; omega
    have hlt' : N1 % 10 = 0 → N1 / 10 < 10 ^ f := by
      intro h
      have := hlt.out
      rw [Nat.pow_succ] at this
      omega
    replace hL := hL.put (pT_st (.slice A1 n1 c1) m N1) hv1
    clear hv1 hlt
    go_wp2_with fail
    refine (of_ten _).mono ?_
    rintro ex w1 ⟨u, rfl, hv, hb⟩
    replace hL := (hL.go hb).put (pT_st u 1 10) hv
    clear hb hv
    go_wp2_with fail
    refine (div_t (IsT.isN (hL.get (P := pT (.slice A1 n1 c1) m N1) (by repeat (first | exact List.mem_cons_self | apply List.mem_cons_of_mem)))) (IsT.isN (hL.get (P := pT u 1 10) (by repeat (first | exact List.mem_cons_self | apply List.mem_cons_of_mem)))) hm (by decide) (by decide)).mono ?_
    rintro e w4 ⟨v4, v5, rfl, hq, hr, hb⟩
    obtain ⟨A4, c4, z4, rfl, -⟩ := id hq
    obtain ⟨A5, c5, z5, rfl, -⟩ := id hr
    obtain ⟨n4, hn4⟩ : ∃ n, z4.length = n := ⟨_, rfl⟩
    obtain ⟨n5, hn5⟩ : ∃ n, z5.length = n := ⟨_, rfl⟩
    rw [hn4] at hq ⊢
    rw [hn5] at hr ⊢
    clear hn4 hn5
    replace hL := hL.go hb
    clear hb
    by_cases h10 : N1 % 10 = 0
    · have hn5 : ¬ 0 < n5 := by rcases isT_zero hr with ⟨a, b⟩ | ⟨a, b⟩ <;> omega
      have hn5' : n5 = 0 := by omega
      subst hn5'
      unfold stripV at hs
      rw [if_neg (by omega)] at hs
      replace hs := Lib.hid hs
      replace hlt' := Lib.hid (hlt' h10)
      replace h10 := Lib.hid h10
      go_wp2
      go_roundg f
      case measure => omega
      case rel => exact ⟨A4, n4, c4, N1 / 10, k1 + 1, rfl, rfl, hs.out, by have := h10.out; omega, hlt', by omega, by omega, hq, hL.keep (by simp)⟩
    · have hn5 : 0 < n5 := by rcases isT_zero hr with ⟨a, b⟩ | ⟨a, b⟩ <;> omega
      unfold stripV at hs
      rw [if_pos (.inr h10)] at hs
      subst hs
      have hX := hL.get (P := pBlk w.heap.size #[.bool false, .slice none 0 0, .int .i64 0] 81) (by repeat (first | exact List.mem_cons_self | apply List.mem_cons_of_mem))
      obtain ⟨q0, q1, q2⟩ := cells3 hX
      have f0 := hX.free 0
      have f1 := hX.free 1
      have f2 := hX.free 2
      have no3 : ∀ (a b c : Value), (∀ n, a ≠ .int .u64 n) → (∀ n, b ≠ .int .u64 n) → (∀ n, c ≠ .int .u64 n) → ∀ x ∈ (#[a, b, c] : Array Value).toList, ∀ n, x ≠ .int .u64 n := by
        intro a b c ha hb hc x hx
        simp at hx
        rcases hx with rfl | rfl | rfl <;> assumption
      have hvD := hL.get (P := pT (.slice A1 n1 c1) m N1) (by repeat (first | exact List.mem_cons_self | apply List.mem_cons_of_mem))
      have hvf := IsT.apartX (i := 2) (u := .int .i64 k1) (IsT.apartX (i := 1) (u := .slice A1 n1 c1) (IsT.apartX (i := 0) (u := .bool neg) hvD hX (no3 _ _ _ (by simp) (by simp) (by simp))) (hX.setX 0 (.bool neg)) (no3 _ _ _ (by simp) (by simp) (by simp))) ((hX.setX 0 (.bool neg)).setX 1 (.slice A1 n1 c1)) (no3 _ _ _ (by simp) (by simp) (by simp))
      have hBf := hL.below
      obtain ⟨y0, y1, y2⟩ := cells3 (show pBlk w.heap.size #[.bool neg, .slice A1 n1 c1, .int .i64 k1] 81 (((w4.setCell ⟨w.heap.size, 0, none⟩ (.bool neg)).setCell ⟨w.heap.size, 1, none⟩ (.slice A1 n1 c1)).setCell ⟨w.heap.size, 2, none⟩ (.int .i64 k1)) from ((hX.setX 0 (.bool neg)).setX 1 (.slice A1 n1 c1)).setX 2 (.int .i64 k1))
      go_wp2
      exact bodyPost_ret (v := .agg #[.bool neg, .slice A1 n1 c1, .int .i64 k1]) (by simp [results, Tryz.results80, go_sem, y0, y1, y2]) rfl ⟨A1, n1, c1, rfl, hvf, ((hBf.setCell (p := ⟨w.heap.size, 0, none⟩) (Nat.le_refl _) _).setCell (p := ⟨w.heap.size, 1, none⟩) (Nat.le_refl _) _).setCell (p := ⟨w.heap.size, 2, none⟩) (Nat.le_refl _) _⟩
end Go.Proofs.YtehpneojiinmdaaGreatDoor
namespace Go.Proofs.YtehpneojiinmdaaGreatDoor
open Go.RowKit Go.Cal
theorem pBlk_madeS (w : World) (cs : Array Value) (t : TypeId) (s : Nat) (hs : w.heap.size = s) : pBlk s cs t (w.alloc (.cells cs t)) := by
  subst hs; exact pBlk_made w cs t
/-- How the test is made up. -/
theorem has_cases (i : Itv) (d : Nat) (k : Int) (nl nh : Nat) (hl : (nl = 0 ∧ i.lowN = 0) ∨ (0 < nl ∧ 0 < i.lowN)) (hh : (nh = 0 ∧ i.highN = 0) ∨ (0 < nh ∧ 0 < i.highN)) (a b : Int) (ha : exC d k k i.lowN i.lowT 0 = a) (hb : exC d k k i.highN i.highT 0 = b) :
    itvHas i d k = ((decide (0 < a) || (a == 0 && i.even && decide (0 < nl))) && (decide ((if 0 < nh then b else -1) < 0) || ((if 0 < nh then b else -1) == 0 && i.even))) := by
  unfold itvHas
  rw [ha, hb]
  have e1 : decide (0 < i.lowN) = decide (0 < nl) := by rcases hl with ⟨h1, h2⟩ | ⟨h1, h2⟩ <;> simp [h1, h2]
  have e2 : (if 0 < i.highN then b else -1) = (if 0 < nh then b else -1) := by
    rcases hh with ⟨h1, h2⟩ | ⟨h1, h2⟩
    · rw [h1, h2]
    · rw [if_pos h1, if_pos h2]
  rw [e1, e2]
set_option maxRecDepth 100000 in
set_option maxHeartbeats 4000000 in
theorem has_any {w : World} {Al Ah A : Option Addr} {nl cl nh ch n c d : Nat} (i : Itv) (k : Int) (hl : IsT w (.slice Al nl cl) 128 i.lowN) (hh : IsT w (.slice Ah nh ch) 128 i.highN) (hx : IsT w (.slice A n c) 128 d)
    (h1 : -5000 ≤ i.lowT ∧ i.lowT ≤ 5000) (h2 : -5000 ≤ i.highT ∧ i.highT ≤ 5000) (hk : -5000 ≤ k ∧ k ≤ 5000) :
    Calls Tryz.prog 163 #[.agg #[.bool false, .slice Al nl cl, .int .i64 i.lowT, .int .i64 0, .bool false, .slice Ah nh ch, .int .i64 i.highT, .int .i64 0, .bool i.even], .agg #[.bool false, .slice A n c, .int .i64 k, .int .i64 k]] w fun e w' => e = .returned (.bool (itvHas i d k)) ∧ Below w.heap.size w w' := by
  obtain ⟨a, ha⟩ : ∃ a, exC d k k i.lowN i.lowT 0 = a := ⟨_, rfl⟩
  obtain ⟨b, hb⟩ : ∃ b, exC d k k i.highN i.highT 0 = b := ⟨_, rfl⟩
  have hc1 := fun (W : World) (hx : IsT W (.slice A n c) 128 d) (hl : IsT W (.slice Al nl cl) 128 i.lowN) => xcmp_any false false k i.lowT k 0 hx hl hk h1 hk ⟨by decide, by decide⟩
  have hc2 := fun (W : World) (hx : IsT W (.slice A n c) 128 d) (hh : IsT W (.slice Ah nh ch) 128 i.highN) => xcmp_any false false k i.highT k 0 hx hh hk h2 hk ⟨by decide, by decide⟩
  rw [ha] at hc1
  rw [hb] at hc2
  rw [has_cases i d k nl nh (isT_zero hl) (isT_zero hh) a b ha hb]
  clear ha hb
  obtain ⟨lN, lT, hN, hT, ev⟩ := i
  simp only at hl hh h1 h2 hc1 hc2 ⊢
  replace hc1 := Lib.hid hc1
  replace hc2 := Lib.hid hc2
  have hnl : 0 < nl ∨ nl = 0 := by omega
  have hnh : 0 < nh ∨ nh = 0 := by omega
  have hA : (0 < a) ∨ (a = 0 ∧ ev = true ∧ 0 < nl) ∨ (a = 0 ∧ ev = true ∧ nl = 0) ∨ (a = 0 ∧ ev = false) ∨ a < 0 := by
    rcases Int.lt_trichotomy a 0 with h | h | h
    · exact .inr (.inr (.inr (.inr h)))
    · cases ev
      · exact .inr (.inr (.inr (.inl ⟨h, rfl⟩)))
      · rcases hnl with h2 | h2
        · exact .inr (.inl ⟨h, rfl, h2⟩)
        · exact .inr (.inr (.inl ⟨h, rfl, h2⟩))
    · exact .inl h
  have hb0 : Below w.heap.size w ((w.alloc (.cells #[.bool false, .slice Al nl cl, .int .i64 lT, .int .i64 0, .bool false, .slice Ah nh ch, .int .i64 hT, .int .i64 0, .bool ev] 200)).alloc (.cells #[.bool false, .slice A n c, .int .i64 k, .int .i64 k] 52)) := ((Below.refl _ _).alloc (Nat.le_refl _) _).alloc (by simp) _
  have hL := ((((LiveP.start w).go hb0).put (pT_st (.slice Al nl cl) 128 lN) (hl.below hb0)).put (pT_st (.slice Ah nh ch) 128 hN) (hh.below hb0)).put (pT_st (.slice A n c) 128 d) (hx.below hb0)
  have hL := (hL.put (pBlk_st _ _ _) (pBlk_st _ _ _ _ _ (pBlk_made w #[.bool false, .slice Al nl cl, .int .i64 lT, .int .i64 0, .bool false, .slice Ah nh ch, .int .i64 hT, .int .i64 0, .bool ev] 200) ((Below.refl _ _).alloc (Nat.le_refl _) (.cells #[.bool false, .slice A n c, .int .i64 k, .int .i64 k] 52)))).put (pBlk_st _ _ _) (pBlk_madeS (w.alloc (.cells #[.bool false, .slice Al nl cl, .int .i64 lT, .int .i64 0, .bool false, .slice Ah nh ch, .int .i64 hT, .int .i64 0, .bool ev] 200)) #[.bool false, .slice A n c, .int .i64 k, .int .i64 k] 52 (w.heap.size + 1) (by simp))
  clear hnl hb0
  have hB : b < 0 ∨ (b = 0 ∧ ev = true) ∨ (b = 0 ∧ ev = false) ∨ 0 < b := by
    rcases Int.lt_trichotomy b 0 with h | h | h
    · exact .inl h
    · cases ev
      · exact .inr (.inr (.inl ⟨h, rfl⟩))
      · exact .inr (.inl ⟨h, rfl⟩)
    · exact .inr (.inr (.inr h))
  replace hA := Lib.hid hA
  replace hB := Lib.hid hB
  rcases hnh with n1 | n0
  · rw [if_pos n1]
    go_enter Tryz.func163, Tryz.ntmps163
    go_wp2_with fail
    refine (hc1.out _ (hL.get (P := pT (.slice A n c) 128 d) (by repeat (first | exact List.mem_cons_self | apply List.mem_cons_of_mem))) (hL.get (P := pT (.slice Al nl cl) 128 lN) (by repeat (first | exact List.mem_cons_self | apply List.mem_cons_of_mem)))).mono ?_
    rintro e w1 ⟨rfl, hb⟩
    replace hL := hL.go hb
    clear hb
    obtain ⟨q0, q1, q2, q3⟩ := cells4 (hL.get (P := pBlk (w.heap.size + 1) #[.bool false, .slice A n c, .int .i64 k, .int .i64 k] 52) (by repeat (first | exact List.mem_cons_self | apply List.mem_cons_of_mem)))
    have hI := hL.get (P := pBlk w.heap.size #[.bool false, .slice Al nl cl, .int .i64 lT, .int .i64 0, .bool false, .slice Ah nh ch, .int .i64 hT, .int .i64 0, .bool ev] 200) (by repeat (first | exact List.mem_cons_self | apply List.mem_cons_of_mem))
    have r0 := hI.cell 0 _ rfl
    have r1 := hI.cell 1 _ rfl
    have r2 := hI.cell 2 _ rfl
    have r3 := hI.cell 3 _ rfl
    have r4 := hI.cell 4 _ rfl
    have r5 := hI.cell 5 _ rfl
    have r6 := hI.cell 6 _ rfl
    have r7 := hI.cell 7 _ rfl
    have r8 := hI.cell 8 _ rfl
    go_wp2_with fail
    refine (hc2.out _ (hL.get (P := pT (.slice A n c) 128 d) (by repeat (first | exact List.mem_cons_self | apply List.mem_cons_of_mem))) (hL.get (P := pT (.slice Ah nh ch) 128 hN) (by repeat (first | exact List.mem_cons_self | apply List.mem_cons_of_mem)))).mono ?_
    rintro e w2 ⟨rfl, hb⟩
    replace hL := hL.go hb
    clear hb q0 q1 q2 q3 r0 r1 r2 r3 r4 r5 r6 r7 r8 hI
    have hI := hL.get (P := pBlk w.heap.size #[.bool false, .slice Al nl cl, .int .i64 lT, .int .i64 0, .bool false, .slice Ah nh ch, .int .i64 hT, .int .i64 0, .bool ev] 200) (by repeat (first | exact List.mem_cons_self | apply List.mem_cons_of_mem))
    have r1 := hI.cell 1 _ rfl
    have r8 := hI.cell 8 _ rfl
    have hBf := hL.below
    clear hI hL
    rcases hA.out with h | ⟨rfl, rfl, h⟩ | ⟨rfl, rfl, rfl⟩ | ⟨rfl, rfl⟩ | h
    all_goals
      clear hA hB
      go_wp2
      all_goals
        go_ret
        exact ⟨by first | rfl | (simp_all; done) | (simp_all; omega) | (simp; omega), hBf⟩
  · have n1 : ¬ 0 < nh := by omega
    rw [if_neg n1]
    replace n0 := Lib.hid n0
    go_enter Tryz.func163, Tryz.ntmps163
    go_wp2_with fail
    refine (hc1.out _ (hL.get (P := pT (.slice A n c) 128 d) (by repeat (first | exact List.mem_cons_self | apply List.mem_cons_of_mem))) (hL.get (P := pT (.slice Al nl cl) 128 lN) (by repeat (first | exact List.mem_cons_self | apply List.mem_cons_of_mem)))).mono ?_
    rintro e w1 ⟨rfl, hb⟩
    replace hL := hL.go hb
    clear hb
    obtain ⟨q0, q1, q2, q3⟩ := cells4 (hL.get (P := pBlk (w.heap.size + 1) #[.bool false, .slice A n c, .int .i64 k, .int .i64 k] 52) (by repeat (first | exact List.mem_cons_self | apply List.mem_cons_of_mem)))
    have hI := hL.get (P := pBlk w.heap.size #[.bool false, .slice Al nl cl, .int .i64 lT, .int .i64 0, .bool false, .slice Ah nh ch, .int .i64 hT, .int .i64 0, .bool ev] 200) (by repeat (first | exact List.mem_cons_self | apply List.mem_cons_of_mem))
    have r0 := hI.cell 0 _ rfl
    have r1 := hI.cell 1 _ rfl
    have r2 := hI.cell 2 _ rfl
    have r3 := hI.cell 3 _ rfl
    have r4 := hI.cell 4 _ rfl
    have r5 := hI.cell 5 _ rfl
    have r6 := hI.cell 6 _ rfl
    have r7 := hI.cell 7 _ rfl
    have r8 := hI.cell 8 _ rfl
    have hBf := hL.below
    clear hI hL
    rcases hA.out with h | ⟨rfl, rfl, h⟩ | ⟨rfl, rfl, rfl⟩ | ⟨rfl, rfl⟩ | h
    all_goals
      clear hA hB
      go_wp2
      all_goals
        go_ret
        exact ⟨by first | rfl | (simp_all; done) | (simp_all; omega) | (simp; omega), hBf⟩
end Go.Proofs.YtehpneojiinmdaaGreatDoor
