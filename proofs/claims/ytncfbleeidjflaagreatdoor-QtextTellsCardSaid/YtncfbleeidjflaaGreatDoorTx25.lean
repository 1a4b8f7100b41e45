/- What a text is by a power of two, walked: qtext's must, out, whole. Conditions: at most 2000 words, powers within some thousands. -/
import Derived.Test.YtncfbleeidjflaaGreatDoorTx24
import Derived.WalkLawsBesides
import Derived.Test.YtncfbleeidjflaaGreatDoorTx19
namespace Go.Proofs.YtncfbleeidjflaaGreatDoor
open Go.RowKit Go.Cal
set_option maxRecDepth 100000 in
theorem must_yes (n : Int) (w : World) : Calls Tryz.prog 56 #[.bool true, .int .i64 n] w fun e w' => e = .returned (.tuple #[]) ∧ w = w' := by
  go_enter Tryz.func56, Tryz.ntmps56
  go_wp2
  go_end0
  exact ⟨rfl, rfl⟩
set_option maxRecDepth 100000 in
theorem must_no (n : Int) (w : World) : Calls Tryz.prog 56 #[.bool false, .int .i64 n] w fun e w' => e = .panicked [{ v := .iface 24 (.int .i64 n), recovered := false }] ∧ w = w' := by
  go_enter Tryz.func56, Tryz.ntmps56
  go_wp2
  exact ⟨rfl, rfl, rfl⟩
set_option maxRecDepth 100000 in
set_option maxHeartbeats 1000000 in
theorem out_yes {w : World} {v1 v2 : Value} {k1 k2 X Y : Nat} (h1 : IsN w v1 k1 X) (h2 : IsN w v2 k2 Y) (b1 : k1 ≤ 1048576) (b2 : k2 ≤ 1048576) (hY : 0 < Y) (hd : X % Y = 0) :
    Calls Tryz.prog 128 #[v1, v2] w (TellsT w k1 (X / Y)) := by
  go_enter Tryz.func128, Tryz.ntmps128
  go_wp2_with fail
  refine (div_t h1 h2 b1 b2 hY).mono ?_
  rintro e w1 ⟨q, r, rfl, hq, hr, hb⟩
  rw [hd] at hr
  go_wp2_with fail
  refine (sbits_t (IsT.isN hr) (by omega)).mono ?_
  rintro e w2 ⟨rfl, rfl⟩
  rw [blen_zero]
  go_wp2_with fail
  refine (must_yes 8 _).mono ?_
  rintro e w2 ⟨rfl, rfl⟩
  go_wp2
  go_ret
  exact ⟨_, rfl, hq, hb⟩
set_option maxRecDepth 100000 in
set_option maxHeartbeats 1000000 in
theorem out_no {w : World} {v1 v2 : Value} {k1 k2 X Y : Nat} (h1 : IsN w v1 k1 X) (h2 : IsN w v2 k2 Y) (b1 : k1 ≤ 1048576) (b2 : k2 ≤ 1048576) (hY : 0 < Y) (hd : ¬ X % Y = 0) :
    Calls Tryz.prog 128 #[v1, v2] w fun e w' => e = .panicked [{ v := .iface 24 (.int .i64 8), recovered := false }] ∧ Below w.heap.size w w' := by
  have hp : ¬ ((blen (X % Y) : Nat) : Int) = 0 := by
    have h3 := blen_iff (N := X % Y) (k := 0)
    intro h
    have h4 := h3.1 (by omega)
    simp at h4
    exact hd h4
  have hpb : (((blen (X % Y) : Nat) : Int) == 0) = false := beq_eq_false_iff_ne.2 hp
  go_enter Tryz.func128, Tryz.ntmps128
  go_wp2_with fail
  refine (div_t h1 h2 b1 b2 hY).mono ?_
  rintro e w1 ⟨q, r, rfl, hq, hr, hb⟩
  go_wp2_with fail
  refine (sbits_t (IsT.isN hr) (by omega)).mono ?_
  rintro e w2 ⟨rfl, rfl⟩
  go_wp2_with fail
  refine (must_no 8 _).mono ?_
  rintro e w2 ⟨rfl, rfl⟩
  go_wp2
  exact ⟨rfl, rfl, hb⟩
def qw2 (m : Nat) (t : Int) : Option Nat := if 0 ≤ t then some (m * 2 ^ t.toNat) else qdv m (2 ^ (-t).toNat)
theorem IsT.more {w : World} {v : Value} {k k' N : Nat} (h : IsT w v k N) (hk : k ≤ k') : IsT w v k' N := by
  obtain ⟨A, c, zs, h1, h2, h3, h4, h5, h6⟩ := h
  exact ⟨A, c, zs, h1, h2, h3, h4, Nat.le_trans h5 hk, h6⟩
theorem pow_word (J : Nat) : 2 ^ (64 * J) = 18446744073709551616 ^ J := by rw [Nat.pow_mul]
theorem pow_room {a J : Nat} (h : a < 64 * J) : 2 ^ a < 18446744073709551616 ^ J := by rw [← pow_word]; exact Nat.pow_lt_pow_right (by decide) h
theorem shl_room {m r L K : Nat} {t : Int} (hK : K = L + 40) (h : m < 18446744073709551616 ^ L) (ht : t ≤ 2500) (hr : m * 2 ^ t.toNat = r) : r < 18446744073709551616 ^ K := by
  rw [← hr, hK, Nat.pow_add]
  exact Nat.mul_lt_mul_of_lt_of_le h (Nat.le_of_lt (pow_room (by omega))) (Nat.pow_pos (by decide))
/-- What whole tells, or throws. -/
def WOut (w : World) (r : Option Nat) (e : Ending) (w' : World) : Prop :=
  (r = none ∧ e = .panicked [{ v := .iface 24 (.int .i64 8), recovered := false }] ∧ Below w.heap.size w w') ∨ (∃ m, r = some m ∧ ((m < qB ∧ TellsT w 6000 m e w') ∨ (¬ m < qB ∧ e = .panicked [{ v := .iface 24 (.int .i64 4), recovered := false }] ∧ Below w.heap.size w w')))
set_option maxRecDepth 100000 in
set_option maxHeartbeats 8000000 in
theorem qwhole_any {w : World} {A : Option Addr} {n c d : Nat} (h : IsN w (.slice A n c) 2000 d) (kd : Int) (ng : Bool) (k bg e : Int) (ct : Bool) (hk1 : -3000 ≤ k) (hk2 : k ≤ 1000) (he : ¬ qfar e) :
    Calls Tryz.prog 57 #[.agg #[.int .i64 kd, .bool ng, .slice A n c, .int .i64 k, .int .i64 bg, .bool ct], .int .i64 e] w (WOut w (qwh d k e)) := by
  obtain ⟨t, ht⟩ : ∃ t, k - e = t := ⟨_, rfl⟩
  have hei : -1200 ≤ e ∧ e ≤ 1200 := by unfold qfar at he; omega
  obtain ⟨hei1, hei2⟩ := hei
  have htb1 : -4200 ≤ t := by omega
  have htb2 : t ≤ 2200 := by omega
  obtain ⟨L, hLn⟩ : ∃ L, L = 3001 := ⟨_, rfl⟩
  obtain ⟨K, hK⟩ : ∃ K, K = 3041 := ⟨_, rfl⟩
  obtain ⟨J, hJ⟩ : ∃ J, J = 100 := ⟨_, rfl⟩
  replace hLn := Lib.hid hLn
  replace hK := Lib.hid hK
  replace hJ := Lib.hid hJ
  have hL := (((LiveP.start w).put (pN_st _ _ _) h).go ((Below.refl _ _).alloc (Nat.le_refl _) (.cells #[.int .i64 kd, .bool ng, .slice A n c, .int .i64 k, .int .i64 bg, .bool ct] 63))).put (pBlk_st _ _ _) (pBlk_made w #[.int .i64 kd, .bool ng, .slice A n c, .int .i64 k, .int .i64 bg, .bool ct] 63)
  by_cases hk0 : 0 ≤ k
  · obtain ⟨m, hm⟩ : ∃ m, d * 5 ^ k.toNat = m := ⟨_, rfl⟩
    have hres : qwh d k e = qw2 m t := by unfold qwh; rw [if_pos hk0, hm, ← ht]; rfl
    have hkn : (min (max k 0) 10000).toNat = k.toNat := by omega
    have hkw : 2000 + (k.toNat + 1) ≤ 3001 := by omega
    replace hm := Lib.hid hm
    replace hres := Lib.hid hres
    replace hkn := Lib.hid hkn
    replace hkw := Lib.hid hkw
    go_enter Tryz.func57, Tryz.ntmps57
    go_wp2_with fail
    refine (pow_t _ 5 (by decide) k k.toNat hkn.out).mono ?_
    rintro e1 w1 ⟨v1, rfl, hv1, hb⟩
    replace hL := (hL.go hb).put (pT_st _ _ _) hv1
    clear hb hv1
    go_wp2_with fail
    refine (mul_t (hL.get (P := pN (.slice A n c) 2000 d) (by repeat (first | exact List.mem_cons_self | apply List.mem_cons_of_mem))) (IsT.isN (hL.get (P := pT v1 (k.toNat + 1) (5 ^ k.toNat)) (by repeat (first | exact List.mem_cons_self | apply List.mem_cons_of_mem)))) (by decide) (by have := hkw.out; omega)).mono ?_
    rintro e1 w2 ⟨v, rfl, hv, hb⟩
    rw [hm.out] at hv
    replace hL := (hL.go hb).put (pT_st v L m) (IsT.more hv (by have := hkw.out; have := hLn.out; omega))
    clear hb hv
    have q3 := (hL.get (P := pBlk w.heap.size #[.int .i64 kd, .bool ng, .slice A n c, .int .i64 k, .int .i64 bg, .bool ct] 63) (by repeat (first | exact List.mem_cons_self | apply List.mem_cons_of_mem))).cell 3 _ rfl
    by_cases h0 : 0 ≤ t
    · obtain ⟨r, hr⟩ : ∃ r, m * 2 ^ t.toNat = r := ⟨_, rfl⟩
      have hsome : qwh d k e = some r := by rw [hres.out]; unfold qw2; rw [if_pos h0, hr]
      have hr' : m * 2 ^ (min (max t 0) 131072).toNat = r := by rw [← hr]; congr 2; omega
      have hrb := shl_room (K := K) (L := L) (by rw [hK.out, hLn.out]) (IsT.isN (hL.get (P := pT v L m) (by repeat (first | exact List.mem_cons_self | apply List.mem_cons_of_mem)))).lt (show t ≤ 2500 by omega) hr
      replace hsome := Lib.hid hsome
      replace hr := Lib.hid hr
      replace hr' := Lib.hid hr'
      replace hrb := Lib.hid hrb
      replace hres := Lib.hid hres
      go_wp2_with fail
      refine (shl_t t K r (IsT.isN (hL.get (P := pT v L m) (by repeat (first | exact List.mem_cons_self | apply List.mem_cons_of_mem)))) (by have := hLn.out; omega) hr'.out hrb.out).mono ?_
      rintro e1 w3 ⟨v3, rfl, hv3, hb⟩
      replace hL := (hL.go hb).put (pT_st _ _ _) hv3
      clear hb hv3
      by_cases hr2 : r < qB
      · have hbl : ((blen r : Nat) : Int) ≤ 2048 := by have := blen_qB.2 hr2; omega
        have hbd : decide (((blen r : Nat) : Int) ≤ 2048) = true := decide_eq_true hbl
        replace hr2 := Lib.hid hr2
        go_wp2_with fail
        refine (sbits_t (IsT.isN (hL.get (P := pT v3 K r) (by repeat (first | exact List.mem_cons_self | apply List.mem_cons_of_mem)))) (by have := hK.out; omega)).mono ?_
        rintro e1 w9 ⟨rfl, rfl⟩
        go_wp2_with fail
        refine (must_yes 4 _).mono ?_
        rintro e1 w9 ⟨rfl, rfl⟩
        go_wp2
        go_ret
        exact .inr ⟨r, hsome.out, .inl ⟨hr2.out, _, rfl, IsT.more (hL.get (P := pT v3 K r) (by repeat (first | exact List.mem_cons_self | apply List.mem_cons_of_mem))) (by have := hK.out; omega), hL.below⟩⟩
      · have hbl : ¬ ((blen r : Nat) : Int) ≤ 2048 := by have h9 : ¬ blen r ≤ 2048 := fun h => hr2 (blen_qB.1 h); omega
        have hbd : decide (((blen r : Nat) : Int) ≤ 2048) = false := decide_eq_false hbl
        replace hr2 := Lib.hid hr2
        go_wp2_with fail
        refine (sbits_t (IsT.isN (hL.get (P := pT v3 K r) (by repeat (first | exact List.mem_cons_self | apply List.mem_cons_of_mem)))) (by have := hK.out; omega)).mono ?_
        rintro e1 w9 ⟨rfl, rfl⟩
        go_wp2_with fail
        refine (must_no 4 _).mono ?_
        rintro e1 w9 ⟨rfl, rfl⟩
        go_wp2
        exact ⟨rfl, .inr ⟨r, hsome.out, .inr ⟨hr2.out, rfl, hL.below⟩⟩⟩
    · obtain ⟨p, hp⟩ : ∃ p, 2 ^ (-t).toNat = p := ⟨_, rfl⟩
      have hp0 : 0 < p := by rw [← hp]; exact Nat.two_pow_pos _
      have hp' : 1 * 2 ^ (min (max (-t) 0) 131072).toNat = p := by rw [← hp, Nat.one_mul]; congr 1; omega
      have hpb : p < 18446744073709551616 ^ J := by rw [← hp]; exact pow_room (by have := hJ.out; omega)
      replace hpb := Lib.hid hpb
      replace hp' := Lib.hid hp'
      by_cases hq : m % p = 0
      · obtain ⟨r, hr⟩ : ∃ r, m / p = r := ⟨_, rfl⟩
        have hsome : qwh d k e = some r := by rw [hres.out]; unfold qw2 qdv; rw [if_neg h0, hp, if_pos hq, hr]
        replace hsome := Lib.hid hsome
        replace hp := Lib.hid hp
        replace hr := Lib.hid hr
        replace hq := Lib.hid hq
        go_wp2_with fail
        refine (of_t _ 1 (by decide)).mono ?_
        rintro e1 w4 ⟨v4, rfl, hv4, hb⟩
        replace hL := (hL.go hb).put (pT_st _ _ _) hv4
        clear hb hv4
        go_wp2_with fail
        refine (shl_t (-t) J p (IsT.isN (hL.get (P := pT v4 1 1) (by repeat (first | exact List.mem_cons_self | apply List.mem_cons_of_mem)))) (by decide) hp'.out hpb.out).mono ?_
        rintro e1 w5 ⟨v5, rfl, hv5, hb⟩
        replace hL := (hL.go hb).put (pT_st _ _ _) hv5
        clear hb hv5
        go_wp2_with fail
        refine (out_yes (IsT.isN (hL.get (P := pT v L m) (by repeat (first | exact List.mem_cons_self | apply List.mem_cons_of_mem)))) (IsT.isN (hL.get (P := pT v5 J p) (by repeat (first | exact List.mem_cons_self | apply List.mem_cons_of_mem)))) (by have := hLn.out; omega) (by have := hJ.out; omega) hp0 hq.out).mono ?_
        rintro e1 w3 ⟨v3, rfl, hv3, hb⟩
        rw [hr.out] at hv3
        replace hL := (hL.go hb).put (pT_st _ _ _) hv3
        clear hb hv3
        by_cases hr2 : r < qB
        · have hbl : ((blen r : Nat) : Int) ≤ 2048 := by have := blen_qB.2 hr2; omega
          have hbd : decide (((blen r : Nat) : Int) ≤ 2048) = true := decide_eq_true hbl
          replace hr2 := Lib.hid hr2
          go_wp2_with fail
          refine (sbits_t (IsT.isN (hL.get (P := pT v3 L r) (by repeat (first | exact List.mem_cons_self | apply List.mem_cons_of_mem)))) (by have := hLn.out; omega)).mono ?_
          rintro e1 w9 ⟨rfl, rfl⟩
          go_wp2_with fail
          refine (must_yes 4 _).mono ?_
          rintro e1 w9 ⟨rfl, rfl⟩
          go_wp2
          go_ret
          exact .inr ⟨r, hsome.out, .inl ⟨hr2.out, _, rfl, IsT.more (hL.get (P := pT v3 L r) (by repeat (first | exact List.mem_cons_self | apply List.mem_cons_of_mem))) (by have := hLn.out; omega), hL.below⟩⟩
        · have hbl : ¬ ((blen r : Nat) : Int) ≤ 2048 := by have h9 : ¬ blen r ≤ 2048 := fun h => hr2 (blen_qB.1 h); omega
          have hbd : decide (((blen r : Nat) : Int) ≤ 2048) = false := decide_eq_false hbl
          replace hr2 := Lib.hid hr2
          go_wp2_with fail
          refine (sbits_t (IsT.isN (hL.get (P := pT v3 L r) (by repeat (first | exact List.mem_cons_self | apply List.mem_cons_of_mem)))) (by have := hLn.out; omega)).mono ?_
          rintro e1 w9 ⟨rfl, rfl⟩
          go_wp2_with fail
          refine (must_no 4 _).mono ?_
          rintro e1 w9 ⟨rfl, rfl⟩
          go_wp2
          exact ⟨rfl, .inr ⟨r, hsome.out, .inr ⟨hr2.out, rfl, hL.below⟩⟩⟩
      · have hnone : qwh d k e = none := by rw [hres.out]; unfold qw2 qdv; rw [if_neg h0, hp, if_neg hq]
        replace hnone := Lib.hid hnone
        replace hp := Lib.hid hp
        replace hq := Lib.hid hq
        go_wp2_with fail
        refine (of_t _ 1 (by decide)).mono ?_
        rintro e1 w4 ⟨v4, rfl, hv4, hb⟩
        replace hL := (hL.go hb).put (pT_st _ _ _) hv4
        clear hb hv4
        go_wp2_with fail
        refine (shl_t (-t) J p (IsT.isN (hL.get (P := pT v4 1 1) (by repeat (first | exact List.mem_cons_self | apply List.mem_cons_of_mem)))) (by decide) hp'.out hpb.out).mono ?_
        rintro e1 w5 ⟨v5, rfl, hv5, hb⟩
        replace hL := (hL.go hb).put (pT_st _ _ _) hv5
        clear hb hv5
        go_wp2_with fail
        refine (out_no (IsT.isN (hL.get (P := pT v L m) (by repeat (first | exact List.mem_cons_self | apply List.mem_cons_of_mem)))) (IsT.isN (hL.get (P := pT v5 J p) (by repeat (first | exact List.mem_cons_self | apply List.mem_cons_of_mem)))) (by have := hLn.out; omega) (by have := hJ.out; omega) hp0 hq.out).mono ?_
        rintro e1 w3 ⟨rfl, hb⟩
        replace hL := hL.go hb
        clear hb
        go_wp2
        exact ⟨rfl, .inl ⟨hnone.out, rfl, hL.below⟩⟩
  · obtain ⟨f, hf⟩ : ∃ f, 5 ^ (-k).toNat = f := ⟨_, rfl⟩
    have hf0 : 0 < f := by rw [← hf]; exact Nat.pow_pos (by decide)
    have hkn : (min (max (-k) 0) 10000).toNat = (-k).toNat := by omega
    have hkw : (-k).toNat + 1 ≤ 1048576 := by omega
    replace hkn := Lib.hid hkn
    replace hkw := Lib.hid hkw
    by_cases hd : d % f = 0
    · obtain ⟨m, hm⟩ : ∃ m, d / f = m := ⟨_, rfl⟩
      have hres : qwh d k e = qw2 m t := by unfold qwh qdv; rw [if_neg hk0, hf, if_pos hd, hm, ← ht]; rfl
      replace hm := Lib.hid hm
      replace hres := Lib.hid hres
      replace hd := Lib.hid hd
      replace hf := Lib.hid hf
      go_enter Tryz.func57, Tryz.ntmps57
      go_wp2_with fail
      refine (pow_t _ 5 (by decide) (-k) (-k).toNat hkn.out).mono ?_
      rintro e1 w1 ⟨v1, rfl, hv1, hb⟩
      rw [hf.out] at hv1
      replace hL := (hL.go hb).put (pT_st _ _ _) hv1
      clear hb hv1
      go_wp2_with fail
      refine (out_yes (hL.get (P := pN (.slice A n c) 2000 d) (by repeat (first | exact List.mem_cons_self | apply List.mem_cons_of_mem))) (IsT.isN (hL.get (P := pT v1 ((-k).toNat + 1) f) (by repeat (first | exact List.mem_cons_self | apply List.mem_cons_of_mem)))) (by decide) hkw.out hf0 hd.out).mono ?_
      rintro e1 w2 ⟨v, rfl, hv, hb⟩
      rw [hm.out] at hv
      replace hL := (hL.go hb).put (pT_st v L m) (IsT.more hv (by have := hLn.out; omega))
      clear hb hv
      have q3 := (hL.get (P := pBlk w.heap.size #[.int .i64 kd, .bool ng, .slice A n c, .int .i64 k, .int .i64 bg, .bool ct] 63) (by repeat (first | exact List.mem_cons_self | apply List.mem_cons_of_mem))).cell 3 _ rfl
      by_cases h0 : 0 ≤ t
      · obtain ⟨r, hr⟩ : ∃ r, m * 2 ^ t.toNat = r := ⟨_, rfl⟩
        have hsome : qwh d k e = some r := by rw [hres.out]; unfold qw2; rw [if_pos h0, hr]
        have hr' : m * 2 ^ (min (max t 0) 131072).toNat = r := by rw [← hr]; congr 2; omega
        have hrb := shl_room (K := K) (L := L) (by rw [hK.out, hLn.out]) (IsT.isN (hL.get (P := pT v L m) (by repeat (first | exact List.mem_cons_self | apply List.mem_cons_of_mem)))).lt (show t ≤ 2500 by omega) hr
        replace hsome := Lib.hid hsome
        replace hr := Lib.hid hr
        replace hr' := Lib.hid hr'
        replace hrb := Lib.hid hrb
        replace hres := Lib.hid hres
        go_wp2_with fail
        refine (shl_t t K r (IsT.isN (hL.get (P := pT v L m) (by repeat (first | exact List.mem_cons_self | apply List.mem_cons_of_mem)))) (by have := hLn.out; omega) hr'.out hrb.out).mono ?_
        rintro e1 w3 ⟨v3, rfl, hv3, hb⟩
        replace hL := (hL.go hb).put (pT_st _ _ _) hv3
        clear hb hv3
        by_cases hr2 : r < qB
        · have hbl : ((blen r : Nat) : Int) ≤ 2048 := by have := blen_qB.2 hr2; omega
          have hbd : decide (((blen r : Nat) : Int) ≤ 2048) = true := decide_eq_true hbl
          replace hr2 := Lib.hid hr2
          go_wp2_with fail
          refine (sbits_t (IsT.isN (hL.get (P := pT v3 K r) (by repeat (first | exact List.mem_cons_self | apply List.mem_cons_of_mem)))) (by have := hK.out; omega)).mono ?_
          rintro e1 w9 ⟨rfl, rfl⟩
          go_wp2_with fail
          refine (must_yes 4 _).mono ?_
          rintro e1 w9 ⟨rfl, rfl⟩
          go_wp2
          go_ret
          exact .inr ⟨r, hsome.out, .inl ⟨hr2.out, _, rfl, IsT.more (hL.get (P := pT v3 K r) (by repeat (first | exact List.mem_cons_self | apply List.mem_cons_of_mem))) (by have := hK.out; omega), hL.below⟩⟩
        · have hbl : ¬ ((blen r : Nat) : Int) ≤ 2048 := by have h9 : ¬ blen r ≤ 2048 := fun h => hr2 (blen_qB.1 h); omega
          have hbd : decide (((blen r : Nat) : Int) ≤ 2048) = false := decide_eq_false hbl
          replace hr2 := Lib.hid hr2
          go_wp2_with fail
          refine (sbits_t (IsT.isN (hL.get (P := pT v3 K r) (by repeat (first | exact List.mem_cons_self | apply List.mem_cons_of_mem)))) (by have := hK.out; omega)).mono ?_
          rintro e1 w9 ⟨rfl, rfl⟩
          go_wp2_with fail
          refine (must_no 4 _).mono ?_
          rintro e1 w9 ⟨rfl, rfl⟩
          go_wp2
          exact ⟨rfl, .inr ⟨r, hsome.out, .inr ⟨hr2.out, rfl, hL.below⟩⟩⟩
      · obtain ⟨p, hp⟩ : ∃ p, 2 ^ (-t).toNat = p := ⟨_, rfl⟩
        have hp0 : 0 < p := by rw [← hp]; exact Nat.two_pow_pos _
        have hp' : 1 * 2 ^ (min (max (-t) 0) 131072).toNat = p := by rw [← hp, Nat.one_mul]; congr 1; omega
        have hpb : p < 18446744073709551616 ^ J := by rw [← hp]; exact pow_room (by have := hJ.out; omega)
        replace hpb := Lib.hid hpb
        replace hp' := Lib.hid hp'
        by_cases hq : m % p = 0
        · obtain ⟨r, hr⟩ : ∃ r, m / p = r := ⟨_, rfl⟩
          have hsome : qwh d k e = some r := by rw [hres.out]; unfold qw2 qdv; rw [if_neg h0, hp, if_pos hq, hr]
          replace hsome := Lib.hid hsome
          replace hp := Lib.hid hp
          replace hr := Lib.hid hr
          replace hq := Lib.hid hq
          go_wp2_with fail
          refine (of_t _ 1 (by decide)).mono ?_
          rintro e1 w4 ⟨v4, rfl, hv4, hb⟩
          replace hL := (hL.go hb).put (pT_st _ _ _) hv4
          clear hb hv4
          go_wp2_with fail
          refine (shl_t (-t) J p (IsT.isN (hL.get (P := pT v4 1 1) (by repeat (first | exact List.mem_cons_self | apply List.mem_cons_of_mem)))) (by decide) hp'.out hpb.out).mono ?_
          rintro e1 w5 ⟨v5, rfl, hv5, hb⟩
          replace hL := (hL.go hb).put (pT_st _ _ _) hv5
          clear hb hv5
          go_wp2_with fail
          refine (out_yes (IsT.isN (hL.get (P := pT v L m) (by repeat (first | exact List.mem_cons_self | apply List.mem_cons_of_mem)))) (IsT.isN (hL.get (P := pT v5 J p) (by repeat (first | exact List.mem_cons_self | apply List.mem_cons_of_mem)))) (by have := hLn.out; omega) (by have := hJ.out; omega) hp0 hq.out).mono ?_
          rintro e1 w3 ⟨v3, rfl, hv3, hb⟩
          rw [hr.out] at hv3
          replace hL := (hL.go hb).put (pT_st _ _ _) hv3
          clear hb hv3
          by_cases hr2 : r < qB
          · have hbl : ((blen r : Nat) : Int) ≤ 2048 := by have := blen_qB.2 hr2; omega
            have hbd : decide (((blen r : Nat) : Int) ≤ 2048) = true := decide_eq_true hbl
            replace hr2 := Lib.hid hr2
            go_wp2_with fail
            refine (sbits_t (IsT.isN (hL.get (P := pT v3 L r) (by repeat (first | exact List.mem_cons_self | apply List.mem_cons_of_mem)))) (by have := hLn.out; omega)).mono ?_
            rintro e1 w9 ⟨rfl, rfl⟩
            go_wp2_with fail
            refine (must_yes 4 _).mono ?_
            rintro e1 w9 ⟨rfl, rfl⟩
            go_wp2
            go_ret
            exact .inr ⟨r, hsome.out, .inl ⟨hr2.out, _, rfl, IsT.more (hL.get (P := pT v3 L r) (by repeat (first | exact List.mem_cons_self | apply List.mem_cons_of_mem))) (by have := hLn.out; omega), hL.below⟩⟩
          · have hbl : ¬ ((blen r : Nat) : Int) ≤ 2048 := by have h9 : ¬ blen r ≤ 2048 := fun h => hr2 (blen_qB.1 h); omega
            have hbd : decide (((blen r : Nat) : Int) ≤ 2048) = false := decide_eq_false hbl
            replace hr2 := Lib.hid hr2
            go_wp2_with fail
            refine (sbits_t (IsT.isN (hL.get (P := pT v3 L r) (by repeat (first | exact List.mem_cons_self | apply List.mem_cons_of_mem)))) (by have := hLn.out; omega)).mono ?_
            rintro e1 w9 ⟨rfl, rfl⟩
            go_wp2_with fail
            refine (must_no 4 _).mono ?_
            rintro e1 w9 ⟨rfl, rfl⟩
            go_wp2
            exact ⟨rfl, .inr ⟨r, hsome.out, .inr ⟨hr2.out, rfl, hL.below⟩⟩⟩
        · have hnone : qwh d k e = none := by rw [hres.out]; unfold qw2 qdv; rw [if_neg h0, hp, if_neg hq]
          replace hnone := Lib.hid hnone
          replace hp := Lib.hid hp
          replace hq := Lib.hid hq
          go_wp2_with fail
          refine (of_t _ 1 (by decide)).mono ?_
          rintro e1 w4 ⟨v4, rfl, hv4, hb⟩
          replace hL := (hL.go hb).put (pT_st _ _ _) hv4
          clear hb hv4
          go_wp2_with fail
          refine (shl_t (-t) J p (IsT.isN (hL.get (P := pT v4 1 1) (by repeat (first | exact List.mem_cons_self | apply List.mem_cons_of_mem)))) (by decide) hp'.out hpb.out).mono ?_
          rintro e1 w5 ⟨v5, rfl, hv5, hb⟩
          replace hL := (hL.go hb).put (pT_st _ _ _) hv5
          clear hb hv5
          go_wp2_with fail
          refine (out_no (IsT.isN (hL.get (P := pT v L m) (by repeat (first | exact List.mem_cons_self | apply List.mem_cons_of_mem)))) (IsT.isN (hL.get (P := pT v5 J p) (by repeat (first | exact List.mem_cons_self | apply List.mem_cons_of_mem)))) (by have := hLn.out; omega) (by have := hJ.out; omega) hp0 hq.out).mono ?_
          rintro e1 w3 ⟨rfl, hb⟩
          replace hL := hL.go hb
          clear hb
          go_wp2
          exact ⟨rfl, .inl ⟨hnone.out, rfl, hL.below⟩⟩
    · have hnone : qwh d k e = none := by unfold qwh qdv; rw [if_neg hk0, hf, if_neg hd]; rfl
      replace hnone := Lib.hid hnone
      replace hd := Lib.hid hd
      replace hf := Lib.hid hf
      go_enter Tryz.func57, Tryz.ntmps57
      go_wp2_with fail
      refine (pow_t _ 5 (by decide) (-k) (-k).toNat hkn.out).mono ?_
      rintro e1 w1 ⟨v1, rfl, hv1, hb⟩
      rw [hf.out] at hv1
      replace hL := (hL.go hb).put (pT_st _ _ _) hv1
      clear hb hv1
      go_wp2_with fail
      refine (out_no (hL.get (P := pN (.slice A n c) 2000 d) (by repeat (first | exact List.mem_cons_self | apply List.mem_cons_of_mem))) (IsT.isN (hL.get (P := pT v1 ((-k).toNat + 1) f) (by repeat (first | exact List.mem_cons_self | apply List.mem_cons_of_mem)))) (by decide) hkw.out hf0 hd.out).mono ?_
      rintro e1 w2 ⟨rfl, hb⟩
      replace hL := hL.go hb
      clear hb
      go_wp2
      exact ⟨rfl, .inl ⟨hnone.out, rfl, hL.below⟩⟩
end Go.Proofs.YtncfbleeidjflaaGreatDoor
