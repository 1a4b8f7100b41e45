/- The document's Parse of chapter 16, walked. Conditions: none. -/
import Derived.Test.YtncfbleeidjflaaGreatDoorTx26
import Derived.Test.YtncfbleeidjflaaGreatDoorTx20
import Derived.Test.YtncfbleeidjflaaGreatDoorTx15
import Derived.Test.YtncfbleeidjflaaGreatDoorTx23
import Derived.Test.YtncfbleeidjflaaGreatDoorTx24
import Derived.Test.YtncfbleeidjflaaGreatDoorTx27
namespace Go.Proofs.YtncfbleeidjflaaGreatDoor
open Go.RowKit Go.Cal
/-- What the document's Scan tells of a text. -/
def ScanQ (l : List UInt8) (K : Int) (ng : Bool) (d : Nat) (k big : Int) (cut : Bool) : Prop := ∀ w, Calls Tryz.prog 39 #[.string (strL l)] w fun e w' => ∃ A n c, e = .returned (.tuple #[.agg #[.int .i64 K, .bool ng, .slice A n c, .int .i64 k, .int .i64 big, .bool cut], .int .i64 0, .int .i64 0]) ∧ IsT w' (.slice A n c) 2000 d ∧ Below w.heap.size w w'
theorem scanQ_of (l : List UInt8) (it : Cal.Item) (hok : (textS l).1 = true) (hit : textV CR l = it) (hl : l.length ≤ 100000) (K : Int) (hK : ((it.kind : Nat) : Int) = K) : ScanQ l K it.neg it.d it.k it.big it.cut := fun w => by
  refine (rscan_yes l it hok hit hl w).mono ?_
  rintro e w' ⟨A, n, c, rfl, hv, hb⟩
  refine ⟨A, n, c, by rw [hK], ?_, hb⟩
  obtain ⟨A', c', zs, he, r1, r2, r3, r4, r5, -⟩ := hv
  have : Value.slice A n c = .slice A' zs.length c' := by
    injection he with he
    have := congrArg (fun a : Array Value => a.getD 2 (.bool false)) he
    simpa using this
  rw [this]
  exact ⟨A', c', zs, rfl, r1, r2, r3, r4, r5⟩
theorem cells6Q {g : Nat} {a b c d e f : Value} {t : TypeId} {w : World} (hp : pBlk g #[a, b, c, d, e, f] t w) : w.cell? ⟨g, 0, none⟩ = some a ∧ w.cell? ⟨g, 1, none⟩ = some b ∧ w.cell? ⟨g, 2, none⟩ = some c ∧ w.cell? ⟨g, 3, none⟩ = some d ∧ w.cell? ⟨g, 4, none⟩ = some e ∧ w.cell? ⟨g, 5, none⟩ = some f :=
  ⟨hp.cell 0 _ rfl, hp.cell 1 _ rfl, hp.cell 2 _ rfl, hp.cell 3 _ rfl, hp.cell 4 _ rfl, hp.cell 5 _ rfl⟩
theorem isH_shQ {w : World} {v : Value} {k N : Nat} (h : IsH w v k N) : ∃ A n c, v = .slice A n c ∧ (0 < n ↔ 0 < N) := by
  obtain ⟨A, c, zs, rfl, h2, h3, h4, h5, h6⟩ := h
  exact ⟨A, zs.length, c, rfl, nrmH_pos h6⟩
theorem rq_far (l : List UInt8) (e : Int) (hf : qfar e) (w : World) : Calls Tryz.prog 20 #[.string (strL l), .int .i64 e] w (POut w (qP l e)) := by
  have hq := Lib.hid (qP_far l hf)
  have hfin := Below.refl w.heap.size w
  unfold qfar at hf
  rcases hf with h | h
  · go_enter Tryz.func20, Tryz.ntmps20
    go_wp2
    all_goals exact bodyPost_ret (v := .tuple #[.bool false, .slice none 0 0, .int .i64 1]) (by simp [results, Tryz.results20, go_sem]) rfl (pout_err hq.out hfin)
  · have n1 : ¬ e < -1200 := by omega
    go_enter Tryz.func20, Tryz.ntmps20
    go_wp2
    all_goals exact bodyPost_ret (v := .tuple #[.bool false, .slice none 0 0, .int .i64 1]) (by simp [results, Tryz.results20, go_sem]) rfl (pout_err hq.out hfin)
set_option maxRecDepth 100000 in
set_option maxHeartbeats 4000000 in
theorem rq_no (l : List UInt8) (hl : l.length ≤ 100000) (e : Int) (hf : ¬ qfar e) (p : Nat) (ht : (textS l).1 = false) (hp : (textS l).2 = p) (w : World) : Calls Tryz.prog 20 #[.string (strL l), .int .i64 e] w (POut w (qP l e)) := by
  have hq := Lib.hid (show qP l e = (2, false, 0) by unfold qP; rw [if_neg hf, if_pos (.inl ht)])
  have n1 : ¬ e < -1200 := by unfold qfar at hf; omega
  have n2 : ¬ 1200 < e := by unfold qfar at hf; omega
  have hsc := Lib.hid fun w => rscan_no l p ht hp hl w
  clear hf ht hp
  go_enter Tryz.func20, Tryz.ntmps20
  go_wp2_with fail
  refine (hsc.out _).mono ?_
  rintro x w1 ⟨rfl, hb1⟩
  have hfin := hb1.trans (((Below.refl w1.heap.size w1).alloc (Nat.le_refl _) (.cells #[.int .i64 0, .bool false, .slice none 0 0, .int .i64 0, .int .i64 0, .bool false] 76)).mono hb1.size)
  go_wp2
  all_goals exact bodyPost_ret (v := .tuple #[.bool false, .slice none 0 0, .int .i64 2]) (by simp [results, Tryz.results20, go_sem]) rfl (pout_err hq.out hfin)
set_option maxRecDepth 100000 in
set_option maxHeartbeats 4000000 in
theorem rq_word (l : List UInt8) (e : Int) (hf : ¬ qfar e) (K : Int) (hK : (K != 1) = true) (ng : Bool) (d : Nat) (k big : Int) (cut : Bool) (hsc' : ScanQ l K ng d k big cut) (hq' : qP l e = (2, false, 0)) (w : World) : Calls Tryz.prog 20 #[.string (strL l), .int .i64 e] w (POut w (qP l e)) := by
  have hq := Lib.hid hq'
  have n1 : ¬ e < -1200 := by unfold qfar at hf; omega
  have n2 : ¬ 1200 < e := by unfold qfar at hf; omega
  have hsc := Lib.hid hsc'
  clear hf hsc' hq'
  go_enter Tryz.func20, Tryz.ntmps20
  go_wp2_with fail
  refine (hsc.out _).mono ?_
  rintro x w1 ⟨A, n, c, rfl, -, hb1⟩
  have hI := pBlk_made w1 #[.int .i64 K, .bool ng, .slice A n c, .int .i64 k, .int .i64 big, .bool cut] 76
  obtain ⟨i0, i1, i2, i3, i4, i5⟩ := cells6Q hI
  have il := hI.lt
  have hfin := hb1.trans (((Below.refl w1.heap.size w1).alloc (Nat.le_refl _) (.cells #[.int .i64 K, .bool ng, .slice A n c, .int .i64 k, .int .i64 big, .bool cut] 76)).mono hb1.size)
  clear hI hb1
  go_wp2
  all_goals exact bodyPost_ret (v := .tuple #[.bool false, .slice none 0 0, .int .i64 2]) (by simp [results, Tryz.results20, go_sem]) rfl (pout_err hq.out hfin)
set_option maxRecDepth 100000 in
set_option maxHeartbeats 4000000 in
theorem rq_big (l : List UInt8) (e : Int) (hf : ¬ qfar e) (ng : Bool) (d : Nat) (k big : Int) (cut : Bool) (hbc : (big != 0) = true ∨ (big != 0) = false ∧ cut = true) (hsc' : ScanQ l 1 ng d k big cut) (hq' : qP l e = (8, false, 0)) (w : World) : Calls Tryz.prog 20 #[.string (strL l), .int .i64 e] w (POut w (qP l e)) := by
  have hq := Lib.hid hq'
  have n1 : ¬ e < -1200 := by unfold qfar at hf; omega
  have n2 : ¬ 1200 < e := by unfold qfar at hf; omega
  have hsc := Lib.hid hsc'
  clear hf hsc' hq'
  rcases hbc with hb | ⟨hb, rfl⟩
  · skip
    go_enter Tryz.func20, Tryz.ntmps20
    go_wp2_with fail
    refine (hsc.out _).mono ?_
    rintro x w1 ⟨A, n, c, rfl, -, hb1⟩
    have hI := pBlk_made w1 #[.int .i64 1, .bool ng, .slice A n c, .int .i64 k, .int .i64 big, .bool cut] 76
    obtain ⟨i0, i1, i2, i3, i4, i5⟩ := cells6Q hI
    have il := hI.lt
    have hfin := hb1.trans (((Below.refl w1.heap.size w1).alloc (Nat.le_refl _) (.cells #[.int .i64 1, .bool ng, .slice A n c, .int .i64 k, .int .i64 big, .bool cut] 76)).mono hb1.size)
    clear hI hb1
    go_wp2
    all_goals exact bodyPost_ret (v := .tuple #[.bool false, .slice none 0 0, .int .i64 8]) (by simp [results, Tryz.results20, go_sem]) rfl (pout_err hq.out hfin)
  · skip
    go_enter Tryz.func20, Tryz.ntmps20
    go_wp2_with fail
    refine (hsc.out _).mono ?_
    rintro x w1 ⟨A, n, c, rfl, -, hb1⟩
    have hI := pBlk_made w1 #[.int .i64 1, .bool ng, .slice A n c, .int .i64 k, .int .i64 big, .bool true] 76
    obtain ⟨i0, i1, i2, i3, i4, i5⟩ := cells6Q hI
    have il := hI.lt
    have hfin := hb1.trans (((Below.refl w1.heap.size w1).alloc (Nat.le_refl _) (.cells #[.int .i64 1, .bool ng, .slice A n c, .int .i64 k, .int .i64 big, .bool true] 76)).mono hb1.size)
    clear hI hb1
    go_wp2
    all_goals exact bodyPost_ret (v := .tuple #[.bool false, .slice none 0 0, .int .i64 8]) (by simp [results, Tryz.results20, go_sem]) rfl (pout_err hq.out hfin)
theorem TellsW.isT {w w' : World} {N k : Nat} {e : Ending} (h : TellsW w N e w') (hk : N < 18446744073709551616 ^ k) : ∃ v, e = .returned v ∧ IsT w' v k N ∧ Below w.heap.size w w' := by
  obtain ⟨A, c, zs, rfl, hr, h1, h2, h3, -, hb⟩ := h
  exact ⟨_, rfl, ⟨A, c, zs, rfl, hr, h1, h2, h3.length_le hk, h3⟩, hb⟩
theorem qB_more {K : Nat} (h : 32 ≤ K) : qB ≤ 18446744073709551616 ^ K := by
  have h1 : qB = 18446744073709551616 ^ 32 := by unfold qB; decide +kernel
  rw [h1]
  exact Nat.pow_le_pow_right (by decide) h
set_option maxRecDepth 100000 in
set_option maxHeartbeats 8000000 in
theorem rq_num (l : List UInt8) (e : Int) (hf : ¬ qfar e) (ng : Bool) (d : Nat) (k : Int) (hk : -3000 ≤ k ∧ k ≤ 1000) (hsc' : ScanQ l 1 ng d k 0 false)
    (hq' : qP l e = match qwh d k e with
      | none => (8, false, 0)
      | some m => if m < qB then (0, ng && decide (m ≠ 0), m) else (4, false, 0)) (w : World) : Calls Tryz.prog 20 #[.string (strL l), .int .i64 e] w (POut w (qP l e)) := by
  rw [qwh_over] at hq'
  have n1 : ¬ e < -1200 := by unfold qfar at hf; omega
  have n2 : ¬ 1200 < e := by unfold qfar at hf; omega
  have hke : IntKind.i64.wrap (k - e) = k - e := by rw [IntKind.wrap_i64]; omega
  obtain ⟨P, hP⟩ : ∃ P, exP d (k - e) k = P := ⟨_, rfl⟩
  obtain ⟨Q, hQ⟩ : ∃ Q, exQ (k - e) k = Q := ⟨_, rfl⟩
  obtain ⟨E, hE1, hE2⟩ : ∃ E, 7300 ≤ E ∧ E ≤ 7300 := ⟨7300, Nat.le_refl _, Nat.le_refl _⟩
  obtain ⟨K6, hK6⟩ : ∃ K, K = 6000 := ⟨_, rfl⟩
  have hQ0 : 0 < Q := by rw [← hQ]; exact exQ_pos _ _
  have hfP : d < 18446744073709551616 ^ 2000 → P < 4294967296 ^ E := fun hd => by
    have h1 := exP_fits hd k.toNat (k - e).toNat
    rw [← hP]
    unfold exP
    refine Nat.lt_of_lt_of_le h1 (Nat.pow_le_pow_right (by decide) (by omega))
  have hfQ : Q < 4294967296 ^ E := by
    have h1 := exQ_fits (-k).toNat (-(k - e)).toNat
    rw [← hQ]
    unfold exQ
    refine Nat.lt_of_lt_of_le h1 (Nat.pow_le_pow_right (by decide) (by omega))
  have hpa := Lib.hid fun (W : World) A n c (h : IsT W (.slice A n c) 2000 d) => parts_any false (k - e) k W h.isN (by omega) (by omega) (by omega)
  rw [hP, hQ] at hpa hq'
  clear hP hQ
  replace hfP := Lib.hid hfP
  replace hfQ := Lib.hid hfQ
  have hsc := Lib.hid hsc'
  clear hsc' hf
  generalize qP l e = qp at hq' ⊢
  replace hq' := Lib.hid hq'
  go_enter Tryz.func20, Tryz.ntmps20
  go_wp2_with fail
  refine (hsc.out _).mono ?_
  rintro x w1 ⟨A, n, c, rfl, hT, hb1⟩
  have hI := pBlk_made w1 #[.int .i64 1, .bool ng, .slice A n c, .int .i64 k, .int .i64 0, .bool false] 76
  have hal := (Below.refl w1.heap.size w1).alloc (Nat.le_refl _) (.cells #[.int .i64 1, .bool ng, .slice A n c, .int .i64 k, .int .i64 0, .bool false] 76)
  have hB := hb1.trans (hal.mono hb1.size)
  have hT1 := hT.below hal
  obtain ⟨i0, i1, i2, i3, i4, i5⟩ := cells6Q hI
  have il := hI.lt
  clear hal hb1 hT
  go_wp2_with fail
  refine (hpa.out _ _ _ _ hT1).mono ?_
  rintro x w2 ⟨pv, qv, kp, kq, rfl, hPv, hQv, -, -, hb2⟩
  have hd := hT1.isN.lt
  have hB2 := hB.trans (hb2.mono hB.size)
  have hI2 := pBlk_st _ _ _ _ _ hI hb2
  have hov := rover_any _ (IsH.fit hPv (hfP.out hd)) (IsH.fit hQv hfQ.out) (by omega) (by omega) hQ0
  clear i0 i1 i2 i3 i4 i5 il hI hPv hQv hpa hsc hT1 hb2 hd
  go_wp2_with fail
  refine hov.mono ?_
  rintro x w3 ⟨mv, lv, rfl, hM, hLf, hb3⟩
  have hB3 := hB2.trans (hb3.mono hB2.size)
  have hI3 := pBlk_st _ _ _ _ _ hI2 hb3
  obtain ⟨A1, m1, c1, rfl, hs1⟩ := isH_shQ hM
  obtain ⟨A2, m2, c2, rfl, hs2⟩ := isH_shQ hLf
  clear hov hI2 hb3 hB hB2
  by_cases hm : P % Q = 0
  · have z2 : ¬ (0 : Int) < (m2 : Int) := by omega
    have hbt := rbits_any _ hM (by omega)
    have hqB := @blen_qB (P / Q)
    go_wp2_with fail
    refine hbt.mono ?_
    rintro x w4 ⟨rfl, rfl⟩
    by_cases hlt : P / Q < qB
    · have hq1 : qp = (0, ng && decide (P / Q ≠ 0), P / Q) := by rw [hq'.out, if_pos hm]; simp only [if_pos hlt]
      replace hq1 := Lib.hid hq1
      have z3 : ¬ (2048 : Int) < ((blen (P / Q) : Nat) : Int) := by have := hqB.2 hlt; omega
      have hwd := (words_any _ hM (by omega)).mono fun x w' h => TellsW.isT h (Nat.lt_of_lt_of_le hlt (qB_more (K := K6) (by omega)))
      obtain ⟨i0, i1, i2, i3, i4, i5⟩ := cells6Q hI3
      have il := hI3.lt
      clear hbt hqB hI3 hM hLf hs2 hq' hm
      generalize P / Q = V at *
      have hzz : (¬ (0 : Int) < (m1 : Int) ∧ decide (0 < m1) = false ∧ (decide (V ≠ 0)) = false) ∨ ((0 : Int) < (m1 : Int) ∧ decide (0 < m1) = true ∧ (decide (V ≠ 0)) = true) := by
        by_cases h0 : V = 0
        · exact .inl ⟨by omega, by simp; omega, by simp [h0]⟩
        · exact .inr ⟨by omega, by simp; omega, by simp [h0]⟩
      have hq2 := hq1.out
      clear hs1 hq1
      generalize decide (V ≠ 0) = bb at *
      replace hq2 := Lib.hid hq2
      rcases hzz with ⟨hz1, hz2, rfl⟩ | ⟨hz1, hz2, rfl⟩
      · cases ng
        all_goals
          go_wp2_with fail
          refine hwd.mono ?_
          rintro x w5 ⟨v5, rfl, hv5, hb5⟩
          have hfin := hB3.trans (hb5.mono hB3.size)
          go_wp2
          exact bodyPost_ret (v := .tuple #[.bool false, v5, .int .i64 0]) (by simp [results, Tryz.results20, go_sem]) rfl ⟨v5, by rw [hq2.out]; rfl, by rw [hq2.out, ← hK6]; exact hv5, hfin⟩
      · cases ng
        · go_wp2_with fail
          refine hwd.mono ?_
          rintro x w5 ⟨v5, rfl, hv5, hb5⟩
          have hfin := hB3.trans (hb5.mono hB3.size)
          go_wp2
          exact bodyPost_ret (v := .tuple #[.bool false, v5, .int .i64 0]) (by simp [results, Tryz.results20, go_sem]) rfl ⟨v5, by rw [hq2.out]; rfl, by rw [hq2.out, ← hK6]; exact hv5, hfin⟩
        · go_wp2_with fail
          refine hwd.mono ?_
          rintro x w5 ⟨v5, rfl, hv5, hb5⟩
          have hfin := hB3.trans (hb5.mono hB3.size)
          go_wp2
          exact bodyPost_ret (v := .tuple #[.bool true, v5, .int .i64 0]) (by simp [results, Tryz.results20, go_sem]) rfl ⟨v5, by rw [hq2.out]; rfl, by rw [hq2.out, ← hK6]; exact hv5, hfin⟩
    · have hq := Lib.hid (show qp = (4, false, 0) by rw [hq'.out, if_pos hm]; simp only [if_neg hlt])
      have z3 : (2048 : Int) < ((blen (P / Q) : Nat) : Int) := by have h9 : ¬ blen (P / Q) ≤ 2048 := fun h => hlt (hqB.1 h); omega
      clear hbt hqB hI3 hM hLf hs1 hs2 hq'
      go_wp2
      all_goals exact bodyPost_ret (v := .tuple #[.bool false, .slice none 0 0, .int .i64 4]) (by simp [results, Tryz.results20, go_sem]) rfl (pout_err hq.out hB3)
  · have z2 : (0 : Int) < (m2 : Int) := by omega
    have hq := Lib.hid (show qp = (8, false, 0) by rw [hq'.out, if_neg hm])
    clear hI3 hM hLf hs1 hs2 hq'
    go_wp2
    all_goals exact bodyPost_ret (v := .tuple #[.bool false, .slice none 0 0, .int .i64 8]) (by simp [results, Tryz.results20, go_sem]) rfl (pout_err hq.out hB3)
theorem rqparse_any (l : List UInt8) (hl : l.length ≤ 3000) (e : Int) (w : World) : Calls Tryz.prog 20 #[.string (strL l), .int .i64 e] w (POut w (qP l e)) := by
  by_cases hf : qfar e
  · exact rq_far l e hf w
  cases ht : (textS l).1 with
  | false => exact rq_no l (by omega) e hf _ ht rfl w
  | true =>
    have hcap := textV_cap l hl
    obtain ⟨it, hit⟩ : ∃ it, textV 1125899906842624 l = it := ⟨_, rfl⟩
    have hbk := bnd_k (hit ▸ textV_bnd 1125899906842624 l)
    rw [hit] at hcap
    have hsc := scanQ_of l it ht hcap (by omega) _ rfl
    have hqp : qP l e = if it.kind ≠ 1 then (2, false, 0) else if it.big ≠ 0 ∨ it.cut = true then (8, false, 0) else match qwh it.d it.k e with
        | none => (8, false, 0)
        | some m => if m < qB then (0, it.neg && decide (m ≠ 0), m) else (4, false, 0) := by
      unfold qP
      rw [if_neg hf, hit, ht]
      by_cases h1 : it.kind ≠ 1
      · rw [if_pos (.inr h1), if_pos h1]
      · rw [if_neg (by simpa using h1), if_neg h1]
        rfl
    by_cases h1 : it.kind = 1
    · rw [if_neg (by omega)] at hqp
      rw [h1] at hsc
      by_cases hbc : it.big ≠ 0 ∨ it.cut = true
      · rw [if_pos hbc] at hqp
        refine rq_big l e hf _ _ _ _ _ ?_ hsc hqp w
        by_cases h0 : it.big = 0
        · exact .inr ⟨by simp [h0], hbc.resolve_left (by simp [h0])⟩
        · exact .inl (by simp [h0])
      · rw [if_neg hbc] at hqp
        have hb0 : it.big = 0 := Classical.byContradiction fun h => hbc (.inl h)
        have hc0 : it.cut = false := by cases h : it.cut with | false => rfl | true => exact absurd (.inr h) hbc
        rw [hb0, hc0] at hsc
        exact rq_num l e hf _ _ _ hbk hsc hqp w
    · rw [if_pos h1] at hqp
      exact rq_word l e hf _ (bne_iff_ne.2 (by omega)) _ _ _ _ _ hsc hqp w
end Go.Proofs.YtncfbleeidjflaaGreatDoor
