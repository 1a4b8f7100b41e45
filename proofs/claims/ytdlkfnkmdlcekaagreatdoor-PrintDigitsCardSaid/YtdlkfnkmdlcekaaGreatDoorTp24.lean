/- The digits of a text, walked: Unlay, that throws and recovers. Conditions: the variables that the library reads. -/
import Derived.Test.YtdlkfnkmdlcekaaGreatDoorTp23
namespace Go.Proofs.YtdlkfnkmdlcekaaGreatDoor
open Go.RowKit Go.Cal
theorem strL_appL (a b : List UInt8) : strL a ++ strL b = strL (a ++ b) := by
  unfold strL
  refine ByteArray.ext ?_
  simp
theorem three_ds (ds : List UInt8) : ds = [] ∨ (ds ≠ [] ∧ pOkL ds = true) ∨ (ds ≠ [] ∧ ¬ pOkL ds = true) := by
  by_cases h : ds = []
  · exact .inl h
  · by_cases h2 : pOkL ds = true
    · exact .inr (.inl ⟨h, h2⟩)
    · exact .inr (.inr ⟨h, h2⟩)
theorem isT_nilL (w : World) (k : Nat) : IsT w (.slice none 0 0) k 0 := ⟨none, 0, [], rfl, .nil, Nat.le_refl _, by unfold maxLen; omega, by simp, .zero⟩
theorem isT_fit {w : World} {v : Value} {k N : Nat} (h : IsT w v k N) (hN : N < 18446744073709551616 ^ 128) : IsT w v 128 N := by
  obtain ⟨A, c, zs, h1, h2, h3, h4, h5, h6⟩ := h
  exact ⟨A, c, zs, h1, h2, h3, h4, h6.length_le hN, h6⟩
theorem num_bigG {N n e f : Nat} (h : n ≤ e) (hN : N < 10 ^ n) (hf : 4 * e ≤ 64 * f) : N < 18446744073709551616 ^ f := by
  have h1 : 10 ^ n ≤ 10 ^ e := Nat.pow_le_pow_right (by decide) h
  have h3 : 10 ^ e ≤ 16 ^ e := Nat.pow_le_pow_left (by decide) _
  have h4 : (16 : Nat) ^ e = 2 ^ (4 * e) := by rw [Nat.pow_mul]
  have h5 : (18446744073709551616 : Nat) ^ f = 2 ^ (64 * f) := by rw [Nat.pow_mul]
  have h6 : 2 ^ (4 * e) ≤ 2 ^ (64 * f) := Nat.pow_le_pow_right (by decide) hf
  omega
theorem num_big {N n : Nat} (h : n ≤ 2000) (hN : N < 10 ^ n) : N < 18446744073709551616 ^ 128 := num_bigG h hN (by decide)
theorem strL_toL' (l : List UInt8) : (strL l).toList = l := by unfold strL; rw [ByteArray.toList_mk]
theorem fin_some {l : List UInt8} {neg : Bool} {N : Nat} {k : Int} (hr : DRight N k) (hq : lyT neg N k = l) : finS l neg (some (N, k)) = some (neg, N, k) := by
  unfold finS
  exact if_pos ⟨hr, hq⟩
theorem fin_none {l : List UInt8} {neg : Bool} {N : Nat} {k : Int} (h : ¬ (DRight N k ∧ lyT neg N k = l)) : finS l neg (some (N, k)) = none := by
  unfold finS
  exact if_neg h
theorem fin_three (l : List UInt8) (neg : Bool) (N : Nat) (k : Int) : (DRight N k ∧ lyT neg N k = l) ∨ (DRight N k ∧ lyT neg N k ≠ l) ∨ ¬ DRight N k := by
  by_cases h : DRight N k
  · by_cases h2 : lyT neg N k = l
    · exact .inl ⟨h, h2⟩
    · exact .inr (.inl ⟨h, h2⟩)
  · exact .inr (.inr h)
set_option maxRecDepth 100000 in
set_option maxHeartbeats 4000000 in
theorem unlay_near (l : List UInt8) (hl : l.length ≤ 300000) (hfar : (cutC 101 (unT l).1).2.2 = false) (w : World) (hW : LyW w) : Calls Tryz.prog 35 #[.string (strL l)] w (UOut w (unS l)) := by
  replace hl : l.length ≤ 1000000 := by omega
  have hmf : ∀ (fn : Fn) (first cap : Array Value) (w : World), (Instr.makeFunc fn first cap).run Tryz.prog w = .ok (.func fn first cap) w := fun _ _ _ _ => rfl
  have hfin := unC_eq l hl
  obtain ⟨neg, hneg⟩ : ∃ x, (unT l).2 = x := ⟨_, rfl⟩
  obtain ⟨t, ht⟩ : ∃ x, (unT l).1 = x := ⟨_, rfl⟩
  have htl : t.length ≤ 1000000 := by rw [← ht]; exact Nat.le_trans (unT_le l) hl
  rw [ht] at hfar
  obtain ⟨c1, hc1⟩ : ∃ x, (cutC 101 t).1 = x := ⟨_, rfl⟩
  obtain ⟨x1, hx1⟩ : ∃ x, (cutC 101 t).2.1 = x := ⟨_, rfl⟩
  have hcl := cutC_le 101 t
  rw [hc1, hx1] at hcl
  obtain ⟨u, hu⟩ : ∃ x, (cutC 46 c1).1 = x := ⟨_, rfl⟩
  obtain ⟨p, hp⟩ : ∃ x, (cutC 46 c1).2.1 = x := ⟨_, rfl⟩
  obtain ⟨fp, hfp⟩ : ∃ x, (cutC 46 c1).2.2 = x := ⟨_, rfl⟩
  have hpl := cutC_le 46 c1
  rw [hu, hp] at hpl
  have hD : candD t = (u, p) := by unfold candD; rw [hc1, hu, hp]
  obtain ⟨al, hal⟩ : ∃ x, trL (u ++ p) = x := ⟨_, rfl⟩
  obtain ⟨ds, hds⟩ : ∃ x, trR al = x := ⟨_, rfl⟩
  have hall := trL_le (u ++ p)
  have hdsl := trR_le al
  rw [hal, List.length_append] at hall
  rw [hds] at hdsl
  have hup := strL_appL u p
  have hsu := strL_size u
  have hsp := strL_size p
  have hsa := strL_size al
  have hsd := strL_size ds
  obtain ⟨ul, hul⟩ : ∃ x, u.length = x := ⟨_, rfl⟩
  obtain ⟨pl, hpl'⟩ : ∃ x, p.length = x := ⟨_, rfl⟩
  obtain ⟨a, ha⟩ : ∃ x, al.length = x := ⟨_, rfl⟩
  obtain ⟨b, hb⟩ : ∃ x, ds.length = x := ⟨_, rfl⟩
  have hrr : candBC t = (candAC t).bind fun k0 => if ds = [] then some (0, 0) else if pOkL ds = true then some (numV ds, candKC k0 al p) else none := by
    unfold candBC
    rw [hD]
    simp only [hal, hds]
  have hKK : ∀ k0, candKC k0 al p = IntKind.i64.wrap (k0 + (((a : Int) - (b : Int)) - (pl : Int))) := by
    intro k0
    unfold candKC
    rw [hds, ha, hb, hpl']
  rw [hul] at hsu
  rw [hpl'] at hsp
  rw [ha] at hsa
  rw [hb] at hsd
  rw [hul, hpl', ha] at hall
  rw [ha, hb] at hdsl
  have hcat : ul + pl ≤ 9223372036854775807 := by omega
  rw [ht, hneg] at hfin
  have hL := unlay_start w
  go_enter_defers Tryz.func35, Tryz.ntmps35
  go_wp2_with fail
  refine (cutp_any l _).mono ?_
  rintro e1 w1 ⟨rfl, rfl⟩
  rw [ht, hneg]
  go_wp2_with fail
  refine (lcut_any 101 t htl _ (hW.below hL.below).mx).mono ?_
  rintro e1 w2 ⟨rfl, hb2⟩
  replace hL := hL.go hb2
  clear hb2
  rw [hfar, hc1]
  go_wp2_with fail
  refine (lcut_any 46 c1 (by omega) _ (hW.below hL.below).mx).mono ?_
  rintro e1 w3 ⟨rfl, hb2⟩
  replace hL := hL.go hb2
  clear hb2
  rw [hu, hp, hfp]
  go_wp2_with fail
  refine (trimL_any (u ++ p) _).mono ?_
  rintro e1 w4 ⟨rfl, rfl⟩
  rw [hal]
  go_wp2_with fail
  refine (trimR_any al (by unfold maxLen; omega) _).mono ?_
  rintro e1 w4 ⟨rfl, rfl⟩
  rw [hds]
  have hA : candAC t = some 0 := by unfold candAC; rw [hfar]; rfl
  have pd := hL.get (P := pBlk w.heap.size #[.bool false, .slice none 0 0, .int .i64 0] 72) (by repeat (first | exact List.mem_cons_self | apply List.mem_cons_of_mem))
  have pe := hL.get (P := pBlk (w.heap.size + 1) #[.int .i64 0] 26) (by repeat (first | exact List.mem_cons_self | apply List.mem_cons_of_mem))
  have q0 := pd.cell 0 _ rfl
  have q1 := pd.cell 1 _ rfl
  have q2 := pd.cell 2 _ rfl
  have f0 := pd.free 0
  have f2 := pd.free 2
  rcases three_ds ds with hd0 | ⟨hd0, hpk⟩ | ⟨hd0, hpk⟩
  · have hE : (strL ds).toList.isEmpty = true := by unfold strL; rw [ByteArray.toList_mk, hd0]; rfl
    have hcand : candBC t = some (0, 0) := by rw [hrr, hA, Option.bind_some, if_pos hd0]
    replace hd0 := Lib.hid hd0
    go_wp2_with fail
    replace hL := live_set hL pd pe 2 (.int .i64 ((a : Int) - b - pl))
    replace hL := live_set hL (hL.get (P := pBlk w.heap.size #[.bool false, .slice none 0 0, .int .i64 ((a : Int) - b - pl)] 72) (by repeat (first | exact List.mem_cons_self | apply List.mem_cons_of_mem))) (hL.get (P := pBlk (w.heap.size + 1) #[.int .i64 0] 26) (by repeat (first | exact List.mem_cons_self | apply List.mem_cons_of_mem))) 0 (.bool neg)
    replace hL := live_set hL (hL.get (P := pBlk w.heap.size #[.bool neg, .slice none 0 0, .int .i64 ((a : Int) - b - pl)] 72) (by repeat (first | exact List.mem_cons_self | apply List.mem_cons_of_mem))) (hL.get (P := pBlk (w.heap.size + 1) #[.int .i64 0] 26) (by repeat (first | exact List.mem_cons_self | apply List.mem_cons_of_mem))) 2 (.int .i64 0)
    replace hL := hL.put (pT_st _ _ _) (isT_nilL _ 128)
    have hcs : ∀ x ∈ (#[.bool neg, .slice none 0 0, .int .i64 0] : Array Value).toList, ∀ n, x ≠ .int .u64 n := by simp
    have hce : ∀ x ∈ (#[.int .i64 0] : Array Value).toList, ∀ n, x ≠ .int .u64 n := by simp
    clear pd pe q0 q1 q2 f0 f2
    rcases fin_three l neg 0 0 with ⟨hr, hq⟩ | ⟨hr, hq⟩ | hr
    · have hres := Lib.hid (hfin.symm.trans (show finS l neg (candBC t) = some (neg, 0, 0) by rw [hcand]; exact fin_some hr hq))
      have hX2 : lyR neg 0 0 = l := by unfold lyR; rw [if_pos hr, hq]
      have hrt := right_t neg 0 (hW.below hL.below).tab (hL.get (P := pT (.slice none 0 0) 128 0) (by repeat (first | exact List.mem_cons_self | apply List.mem_cons_of_mem)))
      rw [decide_eq_true hr] at hrt
      replace hrt := Lib.hid hrt
      replace hr := Lib.hid hr
      replace hq := Lib.hid hq
      refine hrt.out.mono ?_
      rintro e1 w6 ⟨rfl, hb6⟩
      replace hL := hL.go hb6
      clear hb6 hrt
      have pd := hL.get (P := pBlk w.heap.size #[.bool neg, (.slice none 0 0), .int .i64 0] 72) (by repeat (first | exact List.mem_cons_self | apply List.mem_cons_of_mem))
      have q0 := pd.cell 0 _ rfl
      have q1 := pd.cell 1 _ rfl
      have q2 := pd.cell 2 _ rfl
      have hly := layout_any neg 0 (hW.below hL.below).tab (hL.get (P := pT (.slice none 0 0) 128 0) (by repeat (first | exact List.mem_cons_self | apply List.mem_cons_of_mem)))
      rw [hX2] at hly
      clear hX2
      replace hly := Lib.hid hly
      go_wp2_with fail
      refine hly.out.mono ?_
      rintro e1 w7 ⟨rfl, hb6⟩
      replace hL := hL.go hb6
      clear hb6 hly q0 q1 q2 pd
      go_wp2_with fail
      refine (lmust_yes _).mono ?_
      rintro e1 w8 ⟨rfl, rfl⟩
      have pd := hL.get (P := pBlk w.heap.size #[.bool neg, (.slice none 0 0), .int .i64 0] 72) (by repeat (first | exact List.mem_cons_self | apply List.mem_cons_of_mem))
      have pe := hL.get (P := pBlk (w.heap.size + 1) #[.int .i64 0] 26) (by repeat (first | exact List.mem_cons_self | apply List.mem_cons_of_mem))
      have hv := hL.get (P := pT (.slice none 0 0) 128 0) (by repeat (first | exact List.mem_cons_self | apply List.mem_cons_of_mem))
      have hbl := hL.below
      have q0 := pd.cell 0 _ rfl
      have q1 := pd.cell 1 _ rfl
      have q2 := pd.cell 2 _ rfl
      have q3 := pe.cell 0 _ rfl
      have f0 := pd.free 0
      have f1 := pd.free 1
      have f2 := pd.free 2
      have f3 := pe.free 0
      have pdf := (((pd.setI 0 (.bool neg)).setI 1 (.slice none 0 0)).setI 2 (.int .i64 0)).oth (g' := w.heap.size + 1) (by omega) 0 (.int .i64 0)
      have pef := (((pe.oth (g' := w.heap.size) (by omega) 0 (.bool neg)).oth (g' := w.heap.size) (by omega) 1 (.slice none 0 0)).oth (g' := w.heap.size) (by omega) 2 (.int .i64 0)).setI 0 (.int .i64 0)
      have hvf := (((IsT.apartB (i := 0) (u := .bool neg) hv pd hcs).apartB (i := 1) (u := (.slice none 0 0)) (pd.setI 0 (.bool neg)) hcs).apartB (i := 2) (u := .int .i64 0) ((pd.setI 0 (.bool neg)).setI 1 (.slice none 0 0)) hcs).apartB (i := 0) (u := .int .i64 0) (((pe.oth (g' := w.heap.size) (by omega) 0 (.bool neg)).oth (g' := w.heap.size) (by omega) 1 (.slice none 0 0)).oth (g' := w.heap.size) (by omega) 2 (.int .i64 0)) hce
      have hbf := (((hbl.setCell (p := ⟨w.heap.size, 0, none⟩) (Nat.le_refl _) (.bool neg)).setCell (p := ⟨w.heap.size, 1, none⟩) (Nat.le_refl _) (.slice none 0 0)).setCell (p := ⟨w.heap.size, 2, none⟩) (Nat.le_refl _) (.int .i64 0)).setCell (p := ⟨w.heap.size + 1, 0, none⟩) (Nat.le_succ _) (.int .i64 0)
      have y0 := pdf.cell 0 _ rfl
      have y1 := pdf.cell 1 _ rfl
      have y2 := pdf.cell 2 _ rfl
      have y3 := pef.cell 0 _ rfl
      clear hL hbl
      go_wp2
      show Leaves _ _ _ _ _ .returning _
      refine leaves_cons (f := 70) (args := #[.pointer (some ⟨w.heap.size, 0, none⟩), .pointer (some ⟨w.heap.size + 1, 0, none⟩)]) (by simp) (by simp [go_sem]) ?_
      refine (lcatch_idle w.heap.size _).mono ?_
      rintro e1 u1 w8 ⟨rfl, rfl, rfl⟩
      simp [Leaves, settle, results, Tryz.results35, go_sem, y0, y1, y2, y3]
      exact .inr ⟨neg, _, _, _, hres.out, rfl, hvf, hbf⟩
    · have hres := Lib.hid (hfin.symm.trans (show finS l neg (candBC t) = none by rw [hcand]; exact fin_none fun h => hq h.2))
      have hX : ((strL (lyR neg 0 0)).toList == (strL l).toList) = false := by
        unfold lyR
        rw [if_pos hr, strL_toL', strL_toL', beq_eq_false_iff_ne]
        exact hq
      obtain ⟨X, hXe⟩ : ∃ X, strL (lyR neg 0 0) = X := ⟨_, rfl⟩
      rw [hXe] at hX
      have hrt := right_t neg 0 (hW.below hL.below).tab (hL.get (P := pT (.slice none 0 0) 128 0) (by repeat (first | exact List.mem_cons_self | apply List.mem_cons_of_mem)))
      rw [decide_eq_true hr] at hrt
      replace hrt := Lib.hid hrt
      replace hr := Lib.hid hr
      replace hq := Lib.hid hq
      refine hrt.out.mono ?_
      rintro e1 w6 ⟨rfl, hb6⟩
      replace hL := hL.go hb6
      clear hb6 hrt
      have pd := hL.get (P := pBlk w.heap.size #[.bool neg, (.slice none 0 0), .int .i64 0] 72) (by repeat (first | exact List.mem_cons_self | apply List.mem_cons_of_mem))
      have q0 := pd.cell 0 _ rfl
      have q1 := pd.cell 1 _ rfl
      have q2 := pd.cell 2 _ rfl
      have hly := layout_any neg 0 (hW.below hL.below).tab (hL.get (P := pT (.slice none 0 0) 128 0) (by repeat (first | exact List.mem_cons_self | apply List.mem_cons_of_mem)))
      rw [hXe] at hly
      clear hXe
      replace hly := Lib.hid hly
      go_wp2_with fail
      refine hly.out.mono ?_
      rintro e1 w7 ⟨rfl, hb6⟩
      replace hL := hL.go hb6
      clear hb6 hly q0 q1 q2 pd
      go_wp2_with fail
      refine (lmust_no _).mono ?_
      rintro e1 w8 ⟨rfl, rfl⟩
      have pd := hL.get (P := pBlk w.heap.size #[.bool neg, (.slice none 0 0), .int .i64 0] 72) (by repeat (first | exact List.mem_cons_self | apply List.mem_cons_of_mem))
      have pe := hL.get (P := pBlk (w.heap.size + 1) #[.int .i64 0] 26) (by repeat (first | exact List.mem_cons_self | apply List.mem_cons_of_mem))
      have hbl := hL.below
      clear hL
      go_wp2
      refine leaves_cons (f := 70) (args := #[.pointer (some ⟨w.heap.size, 0, none⟩), .pointer (some ⟨w.heap.size + 1, 0, none⟩)]) (by simp) (by simp [go_sem]) ?_
      refine (lcatch_thrown w.heap.size [] _ pd pe).mono ?_
      rintro e1 u1 w8 ⟨rfl, rfl, pd8, pe8, hb8⟩
      have y0 := pd8.cell 0 _ rfl
      have y1 := pd8.cell 1 _ rfl
      have y2 := pd8.cell 2 _ rfl
      have y3 := pe8.cell 0 _ rfl
      have hbf := hbl.trans hb8
      simp [Leaves, settle, results, Tryz.results35, go_sem, y0, y1, y2, y3]
      exact .inl ⟨hres.out, rfl, hbf⟩
    · have hres := Lib.hid (hfin.symm.trans (show finS l neg (candBC t) = none by rw [hcand]; exact fin_none fun h => hr h.1))
      have hrt := right_t neg 0 (hW.below hL.below).tab (hL.get (P := pT (.slice none 0 0) 128 0) (by repeat (first | exact List.mem_cons_self | apply List.mem_cons_of_mem)))
      rw [decide_eq_false hr] at hrt
      replace hrt := Lib.hid hrt
      replace hr := Lib.hid hr
      refine hrt.out.mono ?_
      rintro e1 w6 ⟨rfl, hb6⟩
      replace hL := hL.go hb6
      clear hb6 hrt
      go_wp2_with fail
      refine (lmust_no _).mono ?_
      rintro e1 w8 ⟨rfl, rfl⟩
      have pd := hL.get (P := pBlk w.heap.size #[.bool neg, (.slice none 0 0), .int .i64 0] 72) (by repeat (first | exact List.mem_cons_self | apply List.mem_cons_of_mem))
      have pe := hL.get (P := pBlk (w.heap.size + 1) #[.int .i64 0] 26) (by repeat (first | exact List.mem_cons_self | apply List.mem_cons_of_mem))
      have hbl := hL.below
      clear hL
      go_wp2
      refine leaves_cons (f := 70) (args := #[.pointer (some ⟨w.heap.size, 0, none⟩), .pointer (some ⟨w.heap.size + 1, 0, none⟩)]) (by simp) (by simp [go_sem]) ?_
      refine (lcatch_thrown w.heap.size [] _ pd pe).mono ?_
      rintro e1 u1 w8 ⟨rfl, rfl, pd8, pe8, hb8⟩
      have y0 := pd8.cell 0 _ rfl
      have y1 := pd8.cell 1 _ rfl
      have y2 := pd8.cell 2 _ rfl
      have y3 := pe8.cell 0 _ rfl
      have hbf := hbl.trans hb8
      simp [Leaves, settle, results, Tryz.results35, go_sem, y0, y1, y2, y3]
      exact .inl ⟨hres.out, rfl, hbf⟩
  · have hE : (strL ds).toList.isEmpty = false := by unfold strL; rw [ByteArray.toList_mk]; simpa using hd0
    have hcand : candBC t = some (numV ds, ((a : Int) - b - pl)) := by rw [hrr, hA, Option.bind_some, if_neg hd0, if_pos hpk, hKK]; exact congrArg (fun x => some (numV ds, x)) (by unfold IntKind.wrap IntKind.bits IntKind.signed; simp; omega)
    have hpo : POk (strL ds).data.toList := (pOk_iff ds).2 hpk
    have hpn : numV ds < 18446744073709551616 ^ 128 := by
      obtain ⟨_, h2, _, h4⟩ := hpo
      have h5 := numV_lt ds h4
      exact num_big h2 h5
    replace hd0 := Lib.hid hd0
    replace hpk := Lib.hid hpk
    replace hpn := Lib.hid hpn
    go_wp2_with fail
    refine (parse_t _ (strL ds) hpo).mono ?_
    rintro e1 w5 ⟨v, rfl, hv0, hb5⟩
    replace hL := live_set hL pd pe 2 (.int .i64 ((a : Int) - b - pl))
    replace hL := live_set hL (hL.get (P := pBlk w.heap.size #[.bool false, .slice none 0 0, .int .i64 ((a : Int) - b - pl)] 72) (by repeat (first | exact List.mem_cons_self | apply List.mem_cons_of_mem))) (hL.get (P := pBlk (w.heap.size + 1) #[.int .i64 0] 26) (by repeat (first | exact List.mem_cons_self | apply List.mem_cons_of_mem))) 0 (.bool neg)
    replace hL := hL.go hb5
    have hv : IsT w5 v 128 (numV ds) := isT_fit hv0 hpn.out
    obtain ⟨A9, c9, zs, rfl, hvr⟩ := id hv
    clear hvr hv0 hb5 pd pe q0 q1 q2 f0 f2 hpo
    obtain ⟨n9, hn9⟩ : ∃ n, zs.length = n := ⟨_, rfl⟩
    rw [hn9] at hv ⊢
    clear hn9
    have pd := hL.get (P := pBlk w.heap.size #[.bool neg, .slice none 0 0, .int .i64 ((a : Int) - b - pl)] 72) (by repeat (first | exact List.mem_cons_self | apply List.mem_cons_of_mem))
    have pe := hL.get (P := pBlk (w.heap.size + 1) #[.int .i64 0] 26) (by repeat (first | exact List.mem_cons_self | apply List.mem_cons_of_mem))
    have q0 := pd.cell 0 _ rfl
    have q1 := pd.cell 1 _ rfl
    have q2 := pd.cell 2 _ rfl
    have f1 := pd.free 1
    go_wp2_with fail
    refine (lmust_yes _).mono ?_
    rintro e1 w8 ⟨rfl, rfl⟩
    have hv' := IsT.apartB (i := 1) (u := .slice A9 n9 c9) hv pd (by simp)
    replace hL := (live_set hL pd pe 1 (.slice A9 n9 c9)).put (pT_st _ _ _) hv'
    have hcs : ∀ x ∈ (#[.bool neg, .slice A9 n9 c9, .int .i64 ((a : Int) - b - pl)] : Array Value).toList, ∀ n, x ≠ .int .u64 n := by simp
    have hce : ∀ x ∈ (#[.int .i64 0] : Array Value).toList, ∀ n, x ≠ .int .u64 n := by simp
    go_wp2_with fail
    clear pd pe q0 q1 q2 f1 hv hv'
    obtain ⟨N, hN⟩ : ∃ N, numV ds = N := ⟨_, rfl⟩
    rw [hN] at hcand hL
    clear hN
    rcases fin_three l neg N ((a : Int) - b - pl) with ⟨hr, hq⟩ | ⟨hr, hq⟩ | hr
    · have hres := Lib.hid (hfin.symm.trans (show finS l neg (candBC t) = some (neg, N, ((a : Int) - b - pl)) by rw [hcand]; exact fin_some hr hq))
      have hX2 : lyR neg N ((a : Int) - b - pl) = l := by unfold lyR; rw [if_pos hr, hq]
      have hrt := right_t neg ((a : Int) - b - pl) (hW.below hL.below).tab (hL.get (P := pT (.slice A9 n9 c9) 128 N) (by repeat (first | exact List.mem_cons_self | apply List.mem_cons_of_mem)))
      rw [decide_eq_true hr] at hrt
      replace hrt := Lib.hid hrt
      replace hr := Lib.hid hr
      replace hq := Lib.hid hq
      refine hrt.out.mono ?_
      rintro e1 w6 ⟨rfl, hb6⟩
      replace hL := hL.go hb6
      clear hb6 hrt
      have pd := hL.get (P := pBlk w.heap.size #[.bool neg, (.slice A9 n9 c9), .int .i64 ((a : Int) - b - pl)] 72) (by repeat (first | exact List.mem_cons_self | apply List.mem_cons_of_mem))
      have q0 := pd.cell 0 _ rfl
      have q1 := pd.cell 1 _ rfl
      have q2 := pd.cell 2 _ rfl
      have hly := layout_any neg ((a : Int) - b - pl) (hW.below hL.below).tab (hL.get (P := pT (.slice A9 n9 c9) 128 N) (by repeat (first | exact List.mem_cons_self | apply List.mem_cons_of_mem)))
      rw [hX2] at hly
      clear hX2
      replace hly := Lib.hid hly
      go_wp2_with fail
      refine hly.out.mono ?_
      rintro e1 w7 ⟨rfl, hb6⟩
      replace hL := hL.go hb6
      clear hb6 hly q0 q1 q2 pd
      go_wp2_with fail
      refine (lmust_yes _).mono ?_
      rintro e1 w8 ⟨rfl, rfl⟩
      have pd := hL.get (P := pBlk w.heap.size #[.bool neg, (.slice A9 n9 c9), .int .i64 ((a : Int) - b - pl)] 72) (by repeat (first | exact List.mem_cons_self | apply List.mem_cons_of_mem))
      have pe := hL.get (P := pBlk (w.heap.size + 1) #[.int .i64 0] 26) (by repeat (first | exact List.mem_cons_self | apply List.mem_cons_of_mem))
      have hv := hL.get (P := pT (.slice A9 n9 c9) 128 N) (by repeat (first | exact List.mem_cons_self | apply List.mem_cons_of_mem))
      have hbl := hL.below
      have q0 := pd.cell 0 _ rfl
      have q1 := pd.cell 1 _ rfl
      have q2 := pd.cell 2 _ rfl
      have q3 := pe.cell 0 _ rfl
      have f0 := pd.free 0
      have f1 := pd.free 1
      have f2 := pd.free 2
      have f3 := pe.free 0
      have pdf := (((pd.setI 0 (.bool neg)).setI 1 (.slice A9 n9 c9)).setI 2 (.int .i64 ((a : Int) - b - pl))).oth (g' := w.heap.size + 1) (by omega) 0 (.int .i64 0)
      have pef := (((pe.oth (g' := w.heap.size) (by omega) 0 (.bool neg)).oth (g' := w.heap.size) (by omega) 1 (.slice A9 n9 c9)).oth (g' := w.heap.size) (by omega) 2 (.int .i64 ((a : Int) - b - pl))).setI 0 (.int .i64 0)
      have hvf := (((IsT.apartB (i := 0) (u := .bool neg) hv pd hcs).apartB (i := 1) (u := (.slice A9 n9 c9)) (pd.setI 0 (.bool neg)) hcs).apartB (i := 2) (u := .int .i64 ((a : Int) - b - pl)) ((pd.setI 0 (.bool neg)).setI 1 (.slice A9 n9 c9)) hcs).apartB (i := 0) (u := .int .i64 0) (((pe.oth (g' := w.heap.size) (by omega) 0 (.bool neg)).oth (g' := w.heap.size) (by omega) 1 (.slice A9 n9 c9)).oth (g' := w.heap.size) (by omega) 2 (.int .i64 ((a : Int) - b - pl))) hce
      have hbf := (((hbl.setCell (p := ⟨w.heap.size, 0, none⟩) (Nat.le_refl _) (.bool neg)).setCell (p := ⟨w.heap.size, 1, none⟩) (Nat.le_refl _) (.slice A9 n9 c9)).setCell (p := ⟨w.heap.size, 2, none⟩) (Nat.le_refl _) (.int .i64 ((a : Int) - b - pl))).setCell (p := ⟨w.heap.size + 1, 0, none⟩) (Nat.le_succ _) (.int .i64 0)
      have y0 := pdf.cell 0 _ rfl
      have y1 := pdf.cell 1 _ rfl
      have y2 := pdf.cell 2 _ rfl
      have y3 := pef.cell 0 _ rfl
      clear hL hbl
      go_wp2
      show Leaves _ _ _ _ _ .returning _
      refine leaves_cons (f := 70) (args := #[.pointer (some ⟨w.heap.size, 0, none⟩), .pointer (some ⟨w.heap.size + 1, 0, none⟩)]) (by simp) (by simp [go_sem]) ?_
      refine (lcatch_idle w.heap.size _).mono ?_
      rintro e1 u1 w8 ⟨rfl, rfl, rfl⟩
      simp [Leaves, settle, results, Tryz.results35, go_sem, y0, y1, y2, y3]
      exact .inr ⟨neg, _, _, _, hres.out, rfl, hvf, hbf⟩
    · have hres := Lib.hid (hfin.symm.trans (show finS l neg (candBC t) = none by rw [hcand]; exact fin_none fun h => hq h.2))
      have hX : ((strL (lyR neg N ((a : Int) - b - pl))).toList == (strL l).toList) = false := by
        unfold lyR
        rw [if_pos hr, strL_toL', strL_toL', beq_eq_false_iff_ne]
        exact hq
      obtain ⟨X, hXe⟩ : ∃ X, strL (lyR neg N ((a : Int) - b - pl)) = X := ⟨_, rfl⟩
      rw [hXe] at hX
      have hrt := right_t neg ((a : Int) - b - pl) (hW.below hL.below).tab (hL.get (P := pT (.slice A9 n9 c9) 128 N) (by repeat (first | exact List.mem_cons_self | apply List.mem_cons_of_mem)))
      rw [decide_eq_true hr] at hrt
      replace hrt := Lib.hid hrt
      replace hr := Lib.hid hr
      replace hq := Lib.hid hq
      refine hrt.out.mono ?_
      rintro e1 w6 ⟨rfl, hb6⟩
      replace hL := hL.go hb6
      clear hb6 hrt
      have pd := hL.get (P := pBlk w.heap.size #[.bool neg, (.slice A9 n9 c9), .int .i64 ((a : Int) - b - pl)] 72) (by repeat (first | exact List.mem_cons_self | apply List.mem_cons_of_mem))
      have q0 := pd.cell 0 _ rfl
      have q1 := pd.cell 1 _ rfl
      have q2 := pd.cell 2 _ rfl
      have hly := layout_any neg ((a : Int) - b - pl) (hW.below hL.below).tab (hL.get (P := pT (.slice A9 n9 c9) 128 N) (by repeat (first | exact List.mem_cons_self | apply List.mem_cons_of_mem)))
      rw [hXe] at hly
      clear hXe
      replace hly := Lib.hid hly
      go_wp2_with fail
      refine hly.out.mono ?_
      rintro e1 w7 ⟨rfl, hb6⟩
      replace hL := hL.go hb6
      clear hb6 hly q0 q1 q2 pd
      go_wp2_with fail
      refine (lmust_no _).mono ?_
      rintro e1 w8 ⟨rfl, rfl⟩
      have pd := hL.get (P := pBlk w.heap.size #[.bool neg, (.slice A9 n9 c9), .int .i64 ((a : Int) - b - pl)] 72) (by repeat (first | exact List.mem_cons_self | apply List.mem_cons_of_mem))
      have pe := hL.get (P := pBlk (w.heap.size + 1) #[.int .i64 0] 26) (by repeat (first | exact List.mem_cons_self | apply List.mem_cons_of_mem))
      have hbl := hL.below
      clear hL
      go_wp2
      refine leaves_cons (f := 70) (args := #[.pointer (some ⟨w.heap.size, 0, none⟩), .pointer (some ⟨w.heap.size + 1, 0, none⟩)]) (by simp) (by simp [go_sem]) ?_
      refine (lcatch_thrown w.heap.size [] _ pd pe).mono ?_
      rintro e1 u1 w8 ⟨rfl, rfl, pd8, pe8, hb8⟩
      have y0 := pd8.cell 0 _ rfl
      have y1 := pd8.cell 1 _ rfl
      have y2 := pd8.cell 2 _ rfl
      have y3 := pe8.cell 0 _ rfl
      have hbf := hbl.trans hb8
      simp [Leaves, settle, results, Tryz.results35, go_sem, y0, y1, y2, y3]
      exact .inl ⟨hres.out, rfl, hbf⟩
    · have hres := Lib.hid (hfin.symm.trans (show finS l neg (candBC t) = none by rw [hcand]; exact fin_none fun h => hr h.1))
      have hrt := right_t neg ((a : Int) - b - pl) (hW.below hL.below).tab (hL.get (P := pT (.slice A9 n9 c9) 128 N) (by repeat (first | exact List.mem_cons_self | apply List.mem_cons_of_mem)))
      rw [decide_eq_false hr] at hrt
      replace hrt := Lib.hid hrt
      replace hr := Lib.hid hr
      refine hrt.out.mono ?_
      rintro e1 w6 ⟨rfl, hb6⟩
      replace hL := hL.go hb6
      clear hb6 hrt
      go_wp2_with fail
      refine (lmust_no _).mono ?_
      rintro e1 w8 ⟨rfl, rfl⟩
      have pd := hL.get (P := pBlk w.heap.size #[.bool neg, (.slice A9 n9 c9), .int .i64 ((a : Int) - b - pl)] 72) (by repeat (first | exact List.mem_cons_self | apply List.mem_cons_of_mem))
      have pe := hL.get (P := pBlk (w.heap.size + 1) #[.int .i64 0] 26) (by repeat (first | exact List.mem_cons_self | apply List.mem_cons_of_mem))
      have hbl := hL.below
      clear hL
      go_wp2
      refine leaves_cons (f := 70) (args := #[.pointer (some ⟨w.heap.size, 0, none⟩), .pointer (some ⟨w.heap.size + 1, 0, none⟩)]) (by simp) (by simp [go_sem]) ?_
      refine (lcatch_thrown w.heap.size [] _ pd pe).mono ?_
      rintro e1 u1 w8 ⟨rfl, rfl, pd8, pe8, hb8⟩
      have y0 := pd8.cell 0 _ rfl
      have y1 := pd8.cell 1 _ rfl
      have y2 := pd8.cell 2 _ rfl
      have y3 := pe8.cell 0 _ rfl
      have hbf := hbl.trans hb8
      simp [Leaves, settle, results, Tryz.results35, go_sem, y0, y1, y2, y3]
      exact .inl ⟨hres.out, rfl, hbf⟩
  · have hE : (strL ds).toList.isEmpty = false := by unfold strL; rw [ByteArray.toList_mk]; simpa using hd0
    have hcand : candBC t = none := by rw [hrr, hA, Option.bind_some, if_neg hd0, if_neg hpk]
    have hres := Lib.hid (hfin.symm.trans (show finS l neg (candBC t) = none by rw [hcand]; rfl))
    have hpo : ¬ POk (strL ds).data.toList := fun h => hpk ((pOk_iff ds).1 h)
    replace hd0 := Lib.hid hd0
    replace hpk := Lib.hid hpk
    go_wp2_with fail
    refine (parse_no (strL ds) _ (by rw [hsd]; unfold maxLen; omega) hpo).mono ?_
    rintro e1 w5 ⟨rfl, hb5⟩
    replace hL := live_set hL pd pe 2 (.int .i64 ((a : Int) - b - pl))
    replace hL := live_set hL (hL.get (P := pBlk w.heap.size #[.bool false, .slice none 0 0, .int .i64 ((a : Int) - b - pl)] 72) (by repeat (first | exact List.mem_cons_self | apply List.mem_cons_of_mem))) (hL.get (P := pBlk (w.heap.size + 1) #[.int .i64 0] 26) (by repeat (first | exact List.mem_cons_self | apply List.mem_cons_of_mem))) 0 (.bool neg)
    replace hL := hL.go hb5
    clear hb5 pd pe q0 q1 q2 f0 f2 hpo
    have pd := hL.get (P := pBlk w.heap.size #[.bool neg, .slice none 0 0, .int .i64 ((a : Int) - b - pl)] 72) (by repeat (first | exact List.mem_cons_self | apply List.mem_cons_of_mem))
    have pe := hL.get (P := pBlk (w.heap.size + 1) #[.int .i64 0] 26) (by repeat (first | exact List.mem_cons_self | apply List.mem_cons_of_mem))
    have q0 := pd.cell 0 _ rfl
    have q1 := pd.cell 1 _ rfl
    have q2 := pd.cell 2 _ rfl
    have f1 := pd.free 1
    go_wp2_with fail
    refine (lmust_no _).mono ?_
    rintro e1 w8 ⟨rfl, rfl⟩
    replace hL := live_set hL pd pe 1 (.slice none 0 0)
    clear pd pe q0 q1 q2 f1
    skip
    have pd := hL.get (P := pBlk w.heap.size #[.bool neg, (.slice none 0 0), .int .i64 ((a : Int) - b - pl)] 72) (by repeat (first | exact List.mem_cons_self | apply List.mem_cons_of_mem))
    have pe := hL.get (P := pBlk (w.heap.size + 1) #[.int .i64 0] 26) (by repeat (first | exact List.mem_cons_self | apply List.mem_cons_of_mem))
    have hbl := hL.below
    clear hL
    go_wp2
    refine leaves_cons (f := 70) (args := #[.pointer (some ⟨w.heap.size, 0, none⟩), .pointer (some ⟨w.heap.size + 1, 0, none⟩)]) (by simp) (by simp [go_sem]) ?_
    refine (lcatch_thrown w.heap.size [] _ pd pe).mono ?_
    rintro e1 u1 w8 ⟨rfl, rfl, pd8, pe8, hb8⟩
    have y0 := pd8.cell 0 _ rfl
    have y1 := pd8.cell 1 _ rfl
    have y2 := pd8.cell 2 _ rfl
    have y3 := pe8.cell 0 _ rfl
    have hbf := hbl.trans hb8
    simp [Leaves, settle, results, Tryz.results35, go_sem, y0, y1, y2, y3]
    exact .inl ⟨hres.out, rfl, hbf⟩
set_option maxRecDepth 100000 in
set_option maxHeartbeats 4000000 in
theorem unlay_far (l : List UInt8) (hl : l.length ≤ 300000) (hfar : (cutC 101 (unT l).1).2.2 = true) (k0 : Int) (hpw : powC (cutC 101 (unT l).1).2.1 = some k0) (w : World) (hW : LyW w) : Calls Tryz.prog 35 #[.string (strL l)] w (UOut w (unS l)) := by
  replace hl : l.length ≤ 1000000 := by omega
  have hmf : ∀ (fn : Fn) (first cap : Array Value) (w : World), (Instr.makeFunc fn first cap).run Tryz.prog w = .ok (.func fn first cap) w := fun _ _ _ _ => rfl
  have hfin := unC_eq l hl
  obtain ⟨neg, hneg⟩ : ∃ x, (unT l).2 = x := ⟨_, rfl⟩
  obtain ⟨t, ht⟩ : ∃ x, (unT l).1 = x := ⟨_, rfl⟩
  have htl : t.length ≤ 1000000 := by rw [← ht]; exact Nat.le_trans (unT_le l) hl
  rw [ht] at hfar
  obtain ⟨c1, hc1⟩ : ∃ x, (cutC 101 t).1 = x := ⟨_, rfl⟩
  obtain ⟨x1, hx1⟩ : ∃ x, (cutC 101 t).2.1 = x := ⟨_, rfl⟩
  have hcl := cutC_le 101 t
  rw [hc1, hx1] at hcl
  obtain ⟨u, hu⟩ : ∃ x, (cutC 46 c1).1 = x := ⟨_, rfl⟩
  obtain ⟨p, hp⟩ : ∃ x, (cutC 46 c1).2.1 = x := ⟨_, rfl⟩
  obtain ⟨fp, hfp⟩ : ∃ x, (cutC 46 c1).2.2 = x := ⟨_, rfl⟩
  have hpl := cutC_le 46 c1
  rw [hu, hp] at hpl
  have hD : candD t = (u, p) := by unfold candD; rw [hc1, hu, hp]
  obtain ⟨al, hal⟩ : ∃ x, trL (u ++ p) = x := ⟨_, rfl⟩
  obtain ⟨ds, hds⟩ : ∃ x, trR al = x := ⟨_, rfl⟩
  have hall := trL_le (u ++ p)
  have hdsl := trR_le al
  rw [hal, List.length_append] at hall
  rw [hds] at hdsl
  have hup := strL_appL u p
  have hsu := strL_size u
  have hsp := strL_size p
  have hsa := strL_size al
  have hsd := strL_size ds
  obtain ⟨ul, hul⟩ : ∃ x, u.length = x := ⟨_, rfl⟩
  obtain ⟨pl, hpl'⟩ : ∃ x, p.length = x := ⟨_, rfl⟩
  obtain ⟨a, ha⟩ : ∃ x, al.length = x := ⟨_, rfl⟩
  obtain ⟨b, hb⟩ : ∃ x, ds.length = x := ⟨_, rfl⟩
  have hrr : candBC t = (candAC t).bind fun k0 => if ds = [] then some (0, 0) else if pOkL ds = true then some (numV ds, candKC k0 al p) else none := by
    unfold candBC
    rw [hD]
    simp only [hal, hds]
  have hKK : ∀ k0, candKC k0 al p = IntKind.i64.wrap (k0 + (((a : Int) - (b : Int)) - (pl : Int))) := by
    intro k0
    unfold candKC
    rw [hds, ha, hb, hpl']
  rw [hul] at hsu
  rw [hpl'] at hsp
  rw [ha] at hsa
  rw [hb] at hsd
  rw [hul, hpl', ha] at hall
  rw [ha, hb] at hdsl
  have hcat : ul + pl ≤ 9223372036854775807 := by omega
  rw [ht, hneg] at hfin
  rw [ht, hx1] at hpw
  have hL := unlay_start w
  go_enter_defers Tryz.func35, Tryz.ntmps35
  go_wp2_with fail
  refine (cutp_any l _).mono ?_
  rintro e1 w1 ⟨rfl, rfl⟩
  rw [ht, hneg]
  go_wp2_with fail
  refine (lcut_any 101 t htl _ (hW.below hL.below).mx).mono ?_
  rintro e1 w2 ⟨rfl, hb2⟩
  replace hL := hL.go hb2
  clear hb2
  rw [hfar, hc1, hx1]
  go_wp2_with fail
  refine (power_yes x1 (by omega) k0 hpw _).mono ?_
  rintro e1 w9 ⟨rfl, hb2⟩
  replace hL := hL.go hb2
  clear hb2
  have pd := hL.get (P := pBlk w.heap.size #[.bool false, .slice none 0 0, .int .i64 0] 72) (by repeat (first | exact List.mem_cons_self | apply List.mem_cons_of_mem))
  have pe := hL.get (P := pBlk (w.heap.size + 1) #[.int .i64 0] 26) (by repeat (first | exact List.mem_cons_self | apply List.mem_cons_of_mem))
  have q2 := pd.cell 2 _ rfl
  have f2 := pd.free 2
  go_wp2_with fail
  replace hL := live_set hL pd pe 2 (.int .i64 k0)
  clear pd pe q2 f2
  refine (lcut_any 46 c1 (by omega) _ (hW.below hL.below).mx).mono ?_
  rintro e1 w3 ⟨rfl, hb2⟩
  replace hL := hL.go hb2
  clear hb2
  rw [hu, hp, hfp]
  go_wp2_with fail
  refine (trimL_any (u ++ p) _).mono ?_
  rintro e1 w4 ⟨rfl, rfl⟩
  rw [hal]
  go_wp2_with fail
  refine (trimR_any al (by unfold maxLen; omega) _).mono ?_
  rintro e1 w4 ⟨rfl, rfl⟩
  rw [hds]
  have hA : candAC t = some k0 := by unfold candAC; rw [hfar, if_pos rfl, hx1, hpw]
  have pd := hL.get (P := pBlk w.heap.size #[.bool false, .slice none 0 0, .int .i64 k0] 72) (by repeat (first | exact List.mem_cons_self | apply List.mem_cons_of_mem))
  have pe := hL.get (P := pBlk (w.heap.size + 1) #[.int .i64 0] 26) (by repeat (first | exact List.mem_cons_self | apply List.mem_cons_of_mem))
  have q0 := pd.cell 0 _ rfl
  have q1 := pd.cell 1 _ rfl
  have q2 := pd.cell 2 _ rfl
  have f0 := pd.free 0
  have f2 := pd.free 2
  rcases three_ds ds with hd0 | ⟨hd0, hpk⟩ | ⟨hd0, hpk⟩
  · have hE : (strL ds).toList.isEmpty = true := by unfold strL; rw [ByteArray.toList_mk, hd0]; rfl
    have hcand : candBC t = some (0, 0) := by rw [hrr, hA, Option.bind_some, if_pos hd0]
    replace hd0 := Lib.hid hd0
    go_wp2_with fail
    replace hL := live_set hL pd pe 2 (.int .i64 (wrap64 (k0 + ((a : Int) - b - pl))))
    replace hL := live_set hL (hL.get (P := pBlk w.heap.size #[.bool false, .slice none 0 0, .int .i64 (wrap64 (k0 + ((a : Int) - b - pl)))] 72) (by repeat (first | exact List.mem_cons_self | apply List.mem_cons_of_mem))) (hL.get (P := pBlk (w.heap.size + 1) #[.int .i64 0] 26) (by repeat (first | exact List.mem_cons_self | apply List.mem_cons_of_mem))) 0 (.bool neg)
    replace hL := live_set hL (hL.get (P := pBlk w.heap.size #[.bool neg, .slice none 0 0, .int .i64 (wrap64 (k0 + ((a : Int) - b - pl)))] 72) (by repeat (first | exact List.mem_cons_self | apply List.mem_cons_of_mem))) (hL.get (P := pBlk (w.heap.size + 1) #[.int .i64 0] 26) (by repeat (first | exact List.mem_cons_self | apply List.mem_cons_of_mem))) 2 (.int .i64 0)
    replace hL := hL.put (pT_st _ _ _) (isT_nilL _ 128)
    have hcs : ∀ x ∈ (#[.bool neg, .slice none 0 0, .int .i64 0] : Array Value).toList, ∀ n, x ≠ .int .u64 n := by simp
    have hce : ∀ x ∈ (#[.int .i64 0] : Array Value).toList, ∀ n, x ≠ .int .u64 n := by simp
    clear pd pe q0 q1 q2 f0 f2
    rcases fin_three l neg 0 0 with ⟨hr, hq⟩ | ⟨hr, hq⟩ | hr
    · have hres := Lib.hid (hfin.symm.trans (show finS l neg (candBC t) = some (neg, 0, 0) by rw [hcand]; exact fin_some hr hq))
      have hX2 : lyR neg 0 0 = l := by unfold lyR; rw [if_pos hr, hq]
      have hrt := right_t neg 0 (hW.below hL.below).tab (hL.get (P := pT (.slice none 0 0) 128 0) (by repeat (first | exact List.mem_cons_self | apply List.mem_cons_of_mem)))
      rw [decide_eq_true hr] at hrt
      replace hrt := Lib.hid hrt
      replace hr := Lib.hid hr
      replace hq := Lib.hid hq
      refine hrt.out.mono ?_
      rintro e1 w6 ⟨rfl, hb6⟩
      replace hL := hL.go hb6
      clear hb6 hrt
      have pd := hL.get (P := pBlk w.heap.size #[.bool neg, (.slice none 0 0), .int .i64 0] 72) (by repeat (first | exact List.mem_cons_self | apply List.mem_cons_of_mem))
      have q0 := pd.cell 0 _ rfl
      have q1 := pd.cell 1 _ rfl
      have q2 := pd.cell 2 _ rfl
      have hly := layout_any neg 0 (hW.below hL.below).tab (hL.get (P := pT (.slice none 0 0) 128 0) (by repeat (first | exact List.mem_cons_self | apply List.mem_cons_of_mem)))
      rw [hX2] at hly
      clear hX2
      replace hly := Lib.hid hly
      go_wp2_with fail
      refine hly.out.mono ?_
      rintro e1 w7 ⟨rfl, hb6⟩
      replace hL := hL.go hb6
      clear hb6 hly q0 q1 q2 pd
      go_wp2_with fail
      refine (lmust_yes _).mono ?_
      rintro e1 w8 ⟨rfl, rfl⟩
      have pd := hL.get (P := pBlk w.heap.size #[.bool neg, (.slice none 0 0), .int .i64 0] 72) (by repeat (first | exact List.mem_cons_self | apply List.mem_cons_of_mem))
      have pe := hL.get (P := pBlk (w.heap.size + 1) #[.int .i64 0] 26) (by repeat (first | exact List.mem_cons_self | apply List.mem_cons_of_mem))
      have hv := hL.get (P := pT (.slice none 0 0) 128 0) (by repeat (first | exact List.mem_cons_self | apply List.mem_cons_of_mem))
      have hbl := hL.below
      have q0 := pd.cell 0 _ rfl
      have q1 := pd.cell 1 _ rfl
      have q2 := pd.cell 2 _ rfl
      have q3 := pe.cell 0 _ rfl
      have f0 := pd.free 0
      have f1 := pd.free 1
      have f2 := pd.free 2
      have f3 := pe.free 0
      have pdf := (((pd.setI 0 (.bool neg)).setI 1 (.slice none 0 0)).setI 2 (.int .i64 0)).oth (g' := w.heap.size + 1) (by omega) 0 (.int .i64 0)
      have pef := (((pe.oth (g' := w.heap.size) (by omega) 0 (.bool neg)).oth (g' := w.heap.size) (by omega) 1 (.slice none 0 0)).oth (g' := w.heap.size) (by omega) 2 (.int .i64 0)).setI 0 (.int .i64 0)
      have hvf := (((IsT.apartB (i := 0) (u := .bool neg) hv pd hcs).apartB (i := 1) (u := (.slice none 0 0)) (pd.setI 0 (.bool neg)) hcs).apartB (i := 2) (u := .int .i64 0) ((pd.setI 0 (.bool neg)).setI 1 (.slice none 0 0)) hcs).apartB (i := 0) (u := .int .i64 0) (((pe.oth (g' := w.heap.size) (by omega) 0 (.bool neg)).oth (g' := w.heap.size) (by omega) 1 (.slice none 0 0)).oth (g' := w.heap.size) (by omega) 2 (.int .i64 0)) hce
      have hbf := (((hbl.setCell (p := ⟨w.heap.size, 0, none⟩) (Nat.le_refl _) (.bool neg)).setCell (p := ⟨w.heap.size, 1, none⟩) (Nat.le_refl _) (.slice none 0 0)).setCell (p := ⟨w.heap.size, 2, none⟩) (Nat.le_refl _) (.int .i64 0)).setCell (p := ⟨w.heap.size + 1, 0, none⟩) (Nat.le_succ _) (.int .i64 0)
      have y0 := pdf.cell 0 _ rfl
      have y1 := pdf.cell 1 _ rfl
      have y2 := pdf.cell 2 _ rfl
      have y3 := pef.cell 0 _ rfl
      clear hL hbl
      go_wp2
      show Leaves _ _ _ _ _ .returning _
      refine leaves_cons (f := 70) (args := #[.pointer (some ⟨w.heap.size, 0, none⟩), .pointer (some ⟨w.heap.size + 1, 0, none⟩)]) (by simp) (by simp [go_sem]) ?_
      refine (lcatch_idle w.heap.size _).mono ?_
      rintro e1 u1 w8 ⟨rfl, rfl, rfl⟩
      simp [Leaves, settle, results, Tryz.results35, go_sem, y0, y1, y2, y3]
      exact .inr ⟨neg, _, _, _, hres.out, rfl, hvf, hbf⟩
    · have hres := Lib.hid (hfin.symm.trans (show finS l neg (candBC t) = none by rw [hcand]; exact fin_none fun h => hq h.2))
      have hX : ((strL (lyR neg 0 0)).toList == (strL l).toList) = false := by
        unfold lyR
        rw [if_pos hr, strL_toL', strL_toL', beq_eq_false_iff_ne]
        exact hq
      obtain ⟨X, hXe⟩ : ∃ X, strL (lyR neg 0 0) = X := ⟨_, rfl⟩
      rw [hXe] at hX
      have hrt := right_t neg 0 (hW.below hL.below).tab (hL.get (P := pT (.slice none 0 0) 128 0) (by repeat (first | exact List.mem_cons_self | apply List.mem_cons_of_mem)))
      rw [decide_eq_true hr] at hrt
      replace hrt := Lib.hid hrt
      replace hr := Lib.hid hr
      replace hq := Lib.hid hq
      refine hrt.out.mono ?_
      rintro e1 w6 ⟨rfl, hb6⟩
      replace hL := hL.go hb6
      clear hb6 hrt
      have pd := hL.get (P := pBlk w.heap.size #[.bool neg, (.slice none 0 0), .int .i64 0] 72) (by repeat (first | exact List.mem_cons_self | apply List.mem_cons_of_mem))
      have q0 := pd.cell 0 _ rfl
      have q1 := pd.cell 1 _ rfl
      have q2 := pd.cell 2 _ rfl
      have hly := layout_any neg 0 (hW.below hL.below).tab (hL.get (P := pT (.slice none 0 0) 128 0) (by repeat (first | exact List.mem_cons_self | apply List.mem_cons_of_mem)))
      rw [hXe] at hly
      clear hXe
      replace hly := Lib.hid hly
      go_wp2_with fail
      refine hly.out.mono ?_
      rintro e1 w7 ⟨rfl, hb6⟩
      replace hL := hL.go hb6
      clear hb6 hly q0 q1 q2 pd
      go_wp2_with fail
      refine (lmust_no _).mono ?_
      rintro e1 w8 ⟨rfl, rfl⟩
      have pd := hL.get (P := pBlk w.heap.size #[.bool neg, (.slice none 0 0), .int .i64 0] 72) (by repeat (first | exact List.mem_cons_self | apply List.mem_cons_of_mem))
      have pe := hL.get (P := pBlk (w.heap.size + 1) #[.int .i64 0] 26) (by repeat (first | exact List.mem_cons_self | apply List.mem_cons_of_mem))
      have hbl := hL.below
      clear hL
      go_wp2
      refine leaves_cons (f := 70) (args := #[.pointer (some ⟨w.heap.size, 0, none⟩), .pointer (some ⟨w.heap.size + 1, 0, none⟩)]) (by simp) (by simp [go_sem]) ?_
      refine (lcatch_thrown w.heap.size [] _ pd pe).mono ?_
      rintro e1 u1 w8 ⟨rfl, rfl, pd8, pe8, hb8⟩
      have y0 := pd8.cell 0 _ rfl
      have y1 := pd8.cell 1 _ rfl
      have y2 := pd8.cell 2 _ rfl
      have y3 := pe8.cell 0 _ rfl
      have hbf := hbl.trans hb8
      simp [Leaves, settle, results, Tryz.results35, go_sem, y0, y1, y2, y3]
      exact .inl ⟨hres.out, rfl, hbf⟩
    · have hres := Lib.hid (hfin.symm.trans (show finS l neg (candBC t) = none by rw [hcand]; exact fin_none fun h => hr h.1))
      have hrt := right_t neg 0 (hW.below hL.below).tab (hL.get (P := pT (.slice none 0 0) 128 0) (by repeat (first | exact List.mem_cons_self | apply List.mem_cons_of_mem)))
      rw [decide_eq_false hr] at hrt
      replace hrt := Lib.hid hrt
      replace hr := Lib.hid hr
      refine hrt.out.mono ?_
      rintro e1 w6 ⟨rfl, hb6⟩
      replace hL := hL.go hb6
      clear hb6 hrt
      go_wp2_with fail
      refine (lmust_no _).mono ?_
      rintro e1 w8 ⟨rfl, rfl⟩
      have pd := hL.get (P := pBlk w.heap.size #[.bool neg, (.slice none 0 0), .int .i64 0] 72) (by repeat (first | exact List.mem_cons_self | apply List.mem_cons_of_mem))
      have pe := hL.get (P := pBlk (w.heap.size + 1) #[.int .i64 0] 26) (by repeat (first | exact List.mem_cons_self | apply List.mem_cons_of_mem))
      have hbl := hL.below
      clear hL
      go_wp2
      refine leaves_cons (f := 70) (args := #[.pointer (some ⟨w.heap.size, 0, none⟩), .pointer (some ⟨w.heap.size + 1, 0, none⟩)]) (by simp) (by simp [go_sem]) ?_
      refine (lcatch_thrown w.heap.size [] _ pd pe).mono ?_
      rintro e1 u1 w8 ⟨rfl, rfl, pd8, pe8, hb8⟩
      have y0 := pd8.cell 0 _ rfl
      have y1 := pd8.cell 1 _ rfl
      have y2 := pd8.cell 2 _ rfl
      have y3 := pe8.cell 0 _ rfl
      have hbf := hbl.trans hb8
      simp [Leaves, settle, results, Tryz.results35, go_sem, y0, y1, y2, y3]
      exact .inl ⟨hres.out, rfl, hbf⟩
  · have hE : (strL ds).toList.isEmpty = false := by unfold strL; rw [ByteArray.toList_mk]; simpa using hd0
    have hcand : candBC t = some (numV ds, (wrap64 (k0 + ((a : Int) - b - pl)))) := by rw [hrr, hA, Option.bind_some, if_neg hd0, if_pos hpk, hKK]; exact congrArg (fun x => some (numV ds, x)) (IntWalk.i64_left _)
    have hpo : POk (strL ds).data.toList := (pOk_iff ds).2 hpk
    have hpn : numV ds < 18446744073709551616 ^ 128 := by
      obtain ⟨_, h2, _, h4⟩ := hpo
      have h5 := numV_lt ds h4
      exact num_big h2 h5
    replace hd0 := Lib.hid hd0
    replace hpk := Lib.hid hpk
    replace hpn := Lib.hid hpn
    go_wp2_with fail
    refine (parse_t _ (strL ds) hpo).mono ?_
    rintro e1 w5 ⟨v, rfl, hv0, hb5⟩
    replace hL := live_set hL pd pe 2 (.int .i64 (wrap64 (k0 + ((a : Int) - b - pl))))
    replace hL := live_set hL (hL.get (P := pBlk w.heap.size #[.bool false, .slice none 0 0, .int .i64 (wrap64 (k0 + ((a : Int) - b - pl)))] 72) (by repeat (first | exact List.mem_cons_self | apply List.mem_cons_of_mem))) (hL.get (P := pBlk (w.heap.size + 1) #[.int .i64 0] 26) (by repeat (first | exact List.mem_cons_self | apply List.mem_cons_of_mem))) 0 (.bool neg)
    replace hL := hL.go hb5
    have hv : IsT w5 v 128 (numV ds) := isT_fit hv0 hpn.out
    obtain ⟨A9, c9, zs, rfl, hvr⟩ := id hv
    clear hvr hv0 hb5 pd pe q0 q1 q2 f0 f2 hpo
    obtain ⟨n9, hn9⟩ : ∃ n, zs.length = n := ⟨_, rfl⟩
    rw [hn9] at hv ⊢
    clear hn9
    have pd := hL.get (P := pBlk w.heap.size #[.bool neg, .slice none 0 0, .int .i64 (wrap64 (k0 + ((a : Int) - b - pl)))] 72) (by repeat (first | exact List.mem_cons_self | apply List.mem_cons_of_mem))
    have pe := hL.get (P := pBlk (w.heap.size + 1) #[.int .i64 0] 26) (by repeat (first | exact List.mem_cons_self | apply List.mem_cons_of_mem))
    have q0 := pd.cell 0 _ rfl
    have q1 := pd.cell 1 _ rfl
    have q2 := pd.cell 2 _ rfl
    have f1 := pd.free 1
    go_wp2_with fail
    refine (lmust_yes _).mono ?_
    rintro e1 w8 ⟨rfl, rfl⟩
    have hv' := IsT.apartB (i := 1) (u := .slice A9 n9 c9) hv pd (by simp)
    replace hL := (live_set hL pd pe 1 (.slice A9 n9 c9)).put (pT_st _ _ _) hv'
    have hcs : ∀ x ∈ (#[.bool neg, .slice A9 n9 c9, .int .i64 (wrap64 (k0 + ((a : Int) - b - pl)))] : Array Value).toList, ∀ n, x ≠ .int .u64 n := by simp
    have hce : ∀ x ∈ (#[.int .i64 0] : Array Value).toList, ∀ n, x ≠ .int .u64 n := by simp
    go_wp2_with fail
    clear pd pe q0 q1 q2 f1 hv hv'
    obtain ⟨N, hN⟩ : ∃ N, numV ds = N := ⟨_, rfl⟩
    rw [hN] at hcand hL
    clear hN
    rcases fin_three l neg N (wrap64 (k0 + ((a : Int) - b - pl))) with ⟨hr, hq⟩ | ⟨hr, hq⟩ | hr
    · have hres := Lib.hid (hfin.symm.trans (show finS l neg (candBC t) = some (neg, N, (wrap64 (k0 + ((a : Int) - b - pl)))) by rw [hcand]; exact fin_some hr hq))
      have hX2 : lyR neg N (wrap64 (k0 + ((a : Int) - b - pl))) = l := by unfold lyR; rw [if_pos hr, hq]
      have hrt := right_t neg (wrap64 (k0 + ((a : Int) - b - pl))) (hW.below hL.below).tab (hL.get (P := pT (.slice A9 n9 c9) 128 N) (by repeat (first | exact List.mem_cons_self | apply List.mem_cons_of_mem)))
      rw [decide_eq_true hr] at hrt
      replace hrt := Lib.hid hrt
      replace hr := Lib.hid hr
      replace hq := Lib.hid hq
      refine hrt.out.mono ?_
      rintro e1 w6 ⟨rfl, hb6⟩
      replace hL := hL.go hb6
      clear hb6 hrt
      have pd := hL.get (P := pBlk w.heap.size #[.bool neg, (.slice A9 n9 c9), .int .i64 (wrap64 (k0 + ((a : Int) - b - pl)))] 72) (by repeat (first | exact List.mem_cons_self | apply List.mem_cons_of_mem))
      have q0 := pd.cell 0 _ rfl
      have q1 := pd.cell 1 _ rfl
      have q2 := pd.cell 2 _ rfl
      have hly := layout_any neg (wrap64 (k0 + ((a : Int) - b - pl))) (hW.below hL.below).tab (hL.get (P := pT (.slice A9 n9 c9) 128 N) (by repeat (first | exact List.mem_cons_self | apply List.mem_cons_of_mem)))
      rw [hX2] at hly
      clear hX2
      replace hly := Lib.hid hly
      go_wp2_with fail
      refine hly.out.mono ?_
      rintro e1 w7 ⟨rfl, hb6⟩
      replace hL := hL.go hb6
      clear hb6 hly q0 q1 q2 pd
      go_wp2_with fail
      refine (lmust_yes _).mono ?_
      rintro e1 w8 ⟨rfl, rfl⟩
      have pd := hL.get (P := pBlk w.heap.size #[.bool neg, (.slice A9 n9 c9), .int .i64 (wrap64 (k0 + ((a : Int) - b - pl)))] 72) (by repeat (first | exact List.mem_cons_self | apply List.mem_cons_of_mem))
      have pe := hL.get (P := pBlk (w.heap.size + 1) #[.int .i64 0] 26) (by repeat (first | exact List.mem_cons_self | apply List.mem_cons_of_mem))
      have hv := hL.get (P := pT (.slice A9 n9 c9) 128 N) (by repeat (first | exact List.mem_cons_self | apply List.mem_cons_of_mem))
      have hbl := hL.below
      have q0 := pd.cell 0 _ rfl
      have q1 := pd.cell 1 _ rfl
      have q2 := pd.cell 2 _ rfl
      have q3 := pe.cell 0 _ rfl
      have f0 := pd.free 0
      have f1 := pd.free 1
      have f2 := pd.free 2
      have f3 := pe.free 0
      have pdf := (((pd.setI 0 (.bool neg)).setI 1 (.slice A9 n9 c9)).setI 2 (.int .i64 (wrap64 (k0 + ((a : Int) - b - pl))))).oth (g' := w.heap.size + 1) (by omega) 0 (.int .i64 0)
      have pef := (((pe.oth (g' := w.heap.size) (by omega) 0 (.bool neg)).oth (g' := w.heap.size) (by omega) 1 (.slice A9 n9 c9)).oth (g' := w.heap.size) (by omega) 2 (.int .i64 (wrap64 (k0 + ((a : Int) - b - pl))))).setI 0 (.int .i64 0)
      have hvf := (((IsT.apartB (i := 0) (u := .bool neg) hv pd hcs).apartB (i := 1) (u := (.slice A9 n9 c9)) (pd.setI 0 (.bool neg)) hcs).apartB (i := 2) (u := .int .i64 (wrap64 (k0 + ((a : Int) - b - pl)))) ((pd.setI 0 (.bool neg)).setI 1 (.slice A9 n9 c9)) hcs).apartB (i := 0) (u := .int .i64 0) (((pe.oth (g' := w.heap.size) (by omega) 0 (.bool neg)).oth (g' := w.heap.size) (by omega) 1 (.slice A9 n9 c9)).oth (g' := w.heap.size) (by omega) 2 (.int .i64 (wrap64 (k0 + ((a : Int) - b - pl))))) hce
      have hbf := (((hbl.setCell (p := ⟨w.heap.size, 0, none⟩) (Nat.le_refl _) (.bool neg)).setCell (p := ⟨w.heap.size, 1, none⟩) (Nat.le_refl _) (.slice A9 n9 c9)).setCell (p := ⟨w.heap.size, 2, none⟩) (Nat.le_refl _) (.int .i64 (wrap64 (k0 + ((a : Int) - b - pl))))).setCell (p := ⟨w.heap.size + 1, 0, none⟩) (Nat.le_succ _) (.int .i64 0)
      have y0 := pdf.cell 0 _ rfl
      have y1 := pdf.cell 1 _ rfl
      have y2 := pdf.cell 2 _ rfl
      have y3 := pef.cell 0 _ rfl
      clear hL hbl
      go_wp2
      show Leaves _ _ _ _ _ .returning _
      refine leaves_cons (f := 70) (args := #[.pointer (some ⟨w.heap.size, 0, none⟩), .pointer (some ⟨w.heap.size + 1, 0, none⟩)]) (by simp) (by simp [go_sem]) ?_
      refine (lcatch_idle w.heap.size _).mono ?_
      rintro e1 u1 w8 ⟨rfl, rfl, rfl⟩
      simp [Leaves, settle, results, Tryz.results35, go_sem, y0, y1, y2, y3]
      exact .inr ⟨neg, _, _, _, hres.out, rfl, hvf, hbf⟩
    · have hres := Lib.hid (hfin.symm.trans (show finS l neg (candBC t) = none by rw [hcand]; exact fin_none fun h => hq h.2))
      have hX : ((strL (lyR neg N (wrap64 (k0 + ((a : Int) - b - pl))))).toList == (strL l).toList) = false := by
        unfold lyR
        rw [if_pos hr, strL_toL', strL_toL', beq_eq_false_iff_ne]
        exact hq
      obtain ⟨X, hXe⟩ : ∃ X, strL (lyR neg N (wrap64 (k0 + ((a : Int) - b - pl)))) = X := ⟨_, rfl⟩
      rw [hXe] at hX
      have hrt := right_t neg (wrap64 (k0 + ((a : Int) - b - pl))) (hW.below hL.below).tab (hL.get (P := pT (.slice A9 n9 c9) 128 N) (by repeat (first | exact List.mem_cons_self | apply List.mem_cons_of_mem)))
      rw [decide_eq_true hr] at hrt
      replace hrt := Lib.hid hrt
      replace hr := Lib.hid hr
      replace hq := Lib.hid hq
      refine hrt.out.mono ?_
      rintro e1 w6 ⟨rfl, hb6⟩
      replace hL := hL.go hb6
      clear hb6 hrt
      have pd := hL.get (P := pBlk w.heap.size #[.bool neg, (.slice A9 n9 c9), .int .i64 (wrap64 (k0 + ((a : Int) - b - pl)))] 72) (by repeat (first | exact List.mem_cons_self | apply List.mem_cons_of_mem))
      have q0 := pd.cell 0 _ rfl
      have q1 := pd.cell 1 _ rfl
      have q2 := pd.cell 2 _ rfl
      have hly := layout_any neg (wrap64 (k0 + ((a : Int) - b - pl))) (hW.below hL.below).tab (hL.get (P := pT (.slice A9 n9 c9) 128 N) (by repeat (first | exact List.mem_cons_self | apply List.mem_cons_of_mem)))
      rw [hXe] at hly
      clear hXe
      replace hly := Lib.hid hly
      go_wp2_with fail
      refine hly.out.mono ?_
      rintro e1 w7 ⟨rfl, hb6⟩
      replace hL := hL.go hb6
      clear hb6 hly q0 q1 q2 pd
      go_wp2_with fail
      refine (lmust_no _).mono ?_
      rintro e1 w8 ⟨rfl, rfl⟩
      have pd := hL.get (P := pBlk w.heap.size #[.bool neg, (.slice A9 n9 c9), .int .i64 (wrap64 (k0 + ((a : Int) - b - pl)))] 72) (by repeat (first | exact List.mem_cons_self | apply List.mem_cons_of_mem))
      have pe := hL.get (P := pBlk (w.heap.size + 1) #[.int .i64 0] 26) (by repeat (first | exact List.mem_cons_self | apply List.mem_cons_of_mem))
      have hbl := hL.below
      clear hL
      go_wp2
      refine leaves_cons (f := 70) (args := #[.pointer (some ⟨w.heap.size, 0, none⟩), .pointer (some ⟨w.heap.size + 1, 0, none⟩)]) (by simp) (by simp [go_sem]) ?_
      refine (lcatch_thrown w.heap.size [] _ pd pe).mono ?_
      rintro e1 u1 w8 ⟨rfl, rfl, pd8, pe8, hb8⟩
      have y0 := pd8.cell 0 _ rfl
      have y1 := pd8.cell 1 _ rfl
      have y2 := pd8.cell 2 _ rfl
      have y3 := pe8.cell 0 _ rfl
      have hbf := hbl.trans hb8
      simp [Leaves, settle, results, Tryz.results35, go_sem, y0, y1, y2, y3]
      exact .inl ⟨hres.out, rfl, hbf⟩
    · have hres := Lib.hid (hfin.symm.trans (show finS l neg (candBC t) = none by rw [hcand]; exact fin_none fun h => hr h.1))
      have hrt := right_t neg (wrap64 (k0 + ((a : Int) - b - pl))) (hW.below hL.below).tab (hL.get (P := pT (.slice A9 n9 c9) 128 N) (by repeat (first | exact List.mem_cons_self | apply List.mem_cons_of_mem)))
      rw [decide_eq_false hr] at hrt
      replace hrt := Lib.hid hrt
      replace hr := Lib.hid hr
      refine hrt.out.mono ?_
      rintro e1 w6 ⟨rfl, hb6⟩
      replace hL := hL.go hb6
      clear hb6 hrt
      go_wp2_with fail
      refine (lmust_no _).mono ?_
      rintro e1 w8 ⟨rfl, rfl⟩
      have pd := hL.get (P := pBlk w.heap.size #[.bool neg, (.slice A9 n9 c9), .int .i64 (wrap64 (k0 + ((a : Int) - b - pl)))] 72) (by repeat (first | exact List.mem_cons_self | apply List.mem_cons_of_mem))
      have pe := hL.get (P := pBlk (w.heap.size + 1) #[.int .i64 0] 26) (by repeat (first | exact List.mem_cons_self | apply List.mem_cons_of_mem))
      have hbl := hL.below
      clear hL
      go_wp2
      refine leaves_cons (f := 70) (args := #[.pointer (some ⟨w.heap.size, 0, none⟩), .pointer (some ⟨w.heap.size + 1, 0, none⟩)]) (by simp) (by simp [go_sem]) ?_
      refine (lcatch_thrown w.heap.size [] _ pd pe).mono ?_
      rintro e1 u1 w8 ⟨rfl, rfl, pd8, pe8, hb8⟩
      have y0 := pd8.cell 0 _ rfl
      have y1 := pd8.cell 1 _ rfl
      have y2 := pd8.cell 2 _ rfl
      have y3 := pe8.cell 0 _ rfl
      have hbf := hbl.trans hb8
      simp [Leaves, settle, results, Tryz.results35, go_sem, y0, y1, y2, y3]
      exact .inl ⟨hres.out, rfl, hbf⟩
  · have hE : (strL ds).toList.isEmpty = false := by unfold strL; rw [ByteArray.toList_mk]; simpa using hd0
    have hcand : candBC t = none := by rw [hrr, hA, Option.bind_some, if_neg hd0, if_neg hpk]
    have hres := Lib.hid (hfin.symm.trans (show finS l neg (candBC t) = none by rw [hcand]; rfl))
    have hpo : ¬ POk (strL ds).data.toList := fun h => hpk ((pOk_iff ds).1 h)
    replace hd0 := Lib.hid hd0
    replace hpk := Lib.hid hpk
    go_wp2_with fail
    refine (parse_no (strL ds) _ (by rw [hsd]; unfold maxLen; omega) hpo).mono ?_
    rintro e1 w5 ⟨rfl, hb5⟩
    replace hL := live_set hL pd pe 2 (.int .i64 (wrap64 (k0 + ((a : Int) - b - pl))))
    replace hL := live_set hL (hL.get (P := pBlk w.heap.size #[.bool false, .slice none 0 0, .int .i64 (wrap64 (k0 + ((a : Int) - b - pl)))] 72) (by repeat (first | exact List.mem_cons_self | apply List.mem_cons_of_mem))) (hL.get (P := pBlk (w.heap.size + 1) #[.int .i64 0] 26) (by repeat (first | exact List.mem_cons_self | apply List.mem_cons_of_mem))) 0 (.bool neg)
    replace hL := hL.go hb5
    clear hb5 pd pe q0 q1 q2 f0 f2 hpo
    have pd := hL.get (P := pBlk w.heap.size #[.bool neg, .slice none 0 0, .int .i64 (wrap64 (k0 + ((a : Int) - b - pl)))] 72) (by repeat (first | exact List.mem_cons_self | apply List.mem_cons_of_mem))
    have pe := hL.get (P := pBlk (w.heap.size + 1) #[.int .i64 0] 26) (by repeat (first | exact List.mem_cons_self | apply List.mem_cons_of_mem))
    have q0 := pd.cell 0 _ rfl
    have q1 := pd.cell 1 _ rfl
    have q2 := pd.cell 2 _ rfl
    have f1 := pd.free 1
    go_wp2_with fail
    refine (lmust_no _).mono ?_
    rintro e1 w8 ⟨rfl, rfl⟩
    replace hL := live_set hL pd pe 1 (.slice none 0 0)
    clear pd pe q0 q1 q2 f1
    skip
    have pd := hL.get (P := pBlk w.heap.size #[.bool neg, (.slice none 0 0), .int .i64 (wrap64 (k0 + ((a : Int) - b - pl)))] 72) (by repeat (first | exact List.mem_cons_self | apply List.mem_cons_of_mem))
    have pe := hL.get (P := pBlk (w.heap.size + 1) #[.int .i64 0] 26) (by repeat (first | exact List.mem_cons_self | apply List.mem_cons_of_mem))
    have hbl := hL.below
    clear hL
    go_wp2
    refine leaves_cons (f := 70) (args := #[.pointer (some ⟨w.heap.size, 0, none⟩), .pointer (some ⟨w.heap.size + 1, 0, none⟩)]) (by simp) (by simp [go_sem]) ?_
    refine (lcatch_thrown w.heap.size [] _ pd pe).mono ?_
    rintro e1 u1 w8 ⟨rfl, rfl, pd8, pe8, hb8⟩
    have y0 := pd8.cell 0 _ rfl
    have y1 := pd8.cell 1 _ rfl
    have y2 := pd8.cell 2 _ rfl
    have y3 := pe8.cell 0 _ rfl
    have hbf := hbl.trans hb8
    simp [Leaves, settle, results, Tryz.results35, go_sem, y0, y1, y2, y3]
    exact .inl ⟨hres.out, rfl, hbf⟩
set_option maxRecDepth 100000 in
set_option maxHeartbeats 4000000 in
theorem unlay_bad (l : List UInt8) (hl : l.length ≤ 300000) (hfar : (cutC 101 (unT l).1).2.2 = true) (hpw : powC (cutC 101 (unT l).1).2.1 = none) (w : World) (hW : LyW w) : Calls Tryz.prog 35 #[.string (strL l)] w (UOut w (unS l)) := by
  replace hl : l.length ≤ 1000000 := by omega
  have hmf : ∀ (fn : Fn) (first cap : Array Value) (w : World), (Instr.makeFunc fn first cap).run Tryz.prog w = .ok (.func fn first cap) w := fun _ _ _ _ => rfl
  have hfin := unC_eq l hl
  obtain ⟨neg, hneg⟩ : ∃ x, (unT l).2 = x := ⟨_, rfl⟩
  obtain ⟨t, ht⟩ : ∃ x, (unT l).1 = x := ⟨_, rfl⟩
  have htl : t.length ≤ 1000000 := by rw [← ht]; exact Nat.le_trans (unT_le l) hl
  rw [ht] at hfar
  obtain ⟨c1, hc1⟩ : ∃ x, (cutC 101 t).1 = x := ⟨_, rfl⟩
  obtain ⟨x1, hx1⟩ : ∃ x, (cutC 101 t).2.1 = x := ⟨_, rfl⟩
  have hcl := cutC_le 101 t
  rw [hc1, hx1] at hcl
  obtain ⟨u, hu⟩ : ∃ x, (cutC 46 c1).1 = x := ⟨_, rfl⟩
  obtain ⟨p, hp⟩ : ∃ x, (cutC 46 c1).2.1 = x := ⟨_, rfl⟩
  obtain ⟨fp, hfp⟩ : ∃ x, (cutC 46 c1).2.2 = x := ⟨_, rfl⟩
  have hpl := cutC_le 46 c1
  rw [hu, hp] at hpl
  have hD : candD t = (u, p) := by unfold candD; rw [hc1, hu, hp]
  obtain ⟨al, hal⟩ : ∃ x, trL (u ++ p) = x := ⟨_, rfl⟩
  obtain ⟨ds, hds⟩ : ∃ x, trR al = x := ⟨_, rfl⟩
  have hall := trL_le (u ++ p)
  have hdsl := trR_le al
  rw [hal, List.length_append] at hall
  rw [hds] at hdsl
  have hup := strL_appL u p
  have hsu := strL_size u
  have hsp := strL_size p
  have hsa := strL_size al
  have hsd := strL_size ds
  obtain ⟨ul, hul⟩ : ∃ x, u.length = x := ⟨_, rfl⟩
  obtain ⟨pl, hpl'⟩ : ∃ x, p.length = x := ⟨_, rfl⟩
  obtain ⟨a, ha⟩ : ∃ x, al.length = x := ⟨_, rfl⟩
  obtain ⟨b, hb⟩ : ∃ x, ds.length = x := ⟨_, rfl⟩
  have hrr : candBC t = (candAC t).bind fun k0 => if ds = [] then some (0, 0) else if pOkL ds = true then some (numV ds, candKC k0 al p) else none := by
    unfold candBC
    rw [hD]
    simp only [hal, hds]
  have hKK : ∀ k0, candKC k0 al p = IntKind.i64.wrap (k0 + (((a : Int) - (b : Int)) - (pl : Int))) := by
    intro k0
    unfold candKC
    rw [hds, ha, hb, hpl']
  rw [hul] at hsu
  rw [hpl'] at hsp
  rw [ha] at hsa
  rw [hb] at hsd
  rw [hul, hpl', ha] at hall
  rw [ha, hb] at hdsl
  have hcat : ul + pl ≤ 9223372036854775807 := by omega
  rw [ht, hneg] at hfin
  rw [ht, hx1] at hpw
  have hA : candAC t = none := by unfold candAC; rw [hfar, if_pos rfl, hx1, hpw]
  have hcand : candBC t = none := by rw [hrr, hA, Option.bind_none]
  have hres := Lib.hid (hfin.symm.trans (show finS l neg (candBC t) = none by rw [hcand]; rfl))
  have hL := unlay_start w
  go_enter_defers Tryz.func35, Tryz.ntmps35
  go_wp2_with fail
  refine (cutp_any l _).mono ?_
  rintro e1 w1 ⟨rfl, rfl⟩
  rw [ht, hneg]
  go_wp2_with fail
  refine (lcut_any 101 t htl _ (hW.below hL.below).mx).mono ?_
  rintro e1 w2 ⟨rfl, hb2⟩
  replace hL := hL.go hb2
  clear hb2
  rw [hfar, hc1, hx1]
  go_wp2_with fail
  refine (power_no x1 (by omega) hpw _ (hW.below hL.below)).mono ?_
  rintro e1 w9 ⟨rfl, hb2⟩
  replace hL := hL.go hb2
  clear hb2
  have pd := hL.get (P := pBlk w.heap.size #[.bool false, .slice none 0 0, .int .i64 0] 72) (by repeat (first | exact List.mem_cons_self | apply List.mem_cons_of_mem))
  have pe := hL.get (P := pBlk (w.heap.size + 1) #[.int .i64 0] 26) (by repeat (first | exact List.mem_cons_self | apply List.mem_cons_of_mem))
  have hbl := hL.below
  clear hL
  go_wp2
  refine leaves_cons (f := 70) (args := #[.pointer (some ⟨w.heap.size, 0, none⟩), .pointer (some ⟨w.heap.size + 1, 0, none⟩)]) (by simp) (by simp [go_sem]) ?_
  refine (lcatch_thrown w.heap.size [] _ pd pe).mono ?_
  rintro e1 u1 w8 ⟨rfl, rfl, pd8, pe8, hb8⟩
  have y0 := pd8.cell 0 _ rfl
  have y1 := pd8.cell 1 _ rfl
  have y2 := pd8.cell 2 _ rfl
  have y3 := pe8.cell 0 _ rfl
  have hbf := hbl.trans hb8
  simp [Leaves, settle, results, Tryz.results35, go_sem, y0, y1, y2, y3]
  exact .inl ⟨hres.out, rfl, hbf⟩
theorem unlay_any (l : List UInt8) (hl : l.length ≤ 300000) (w : World) (hW : LyW w) : Calls Tryz.prog 35 #[.string (strL l)] w (UOut w (unS l)) := by
  cases hfar : (cutC 101 (unT l).1).2.2 with
  | false => exact unlay_near l hl hfar w hW
  | true =>
    cases hpw : powC (cutC 101 (unT l).1).2.1 with
    | none => exact unlay_bad l hl hfar hpw w hW
    | some k0 => exact unlay_far l hl hfar k0 hpw w hW
/-- Unlay, by what it tells. -/
theorem unlay_is (l : List UInt8) (hl : l.length ≤ 300000) (neg : Bool) (N : Nat) (k : Int) (h : unS l = some (neg, N, k)) (w : World) (hW : LyW w) : Calls Tryz.prog 35 #[.string (strL l)] w fun e w' =>
    ∃ v, e = .returned (.tuple #[.agg #[.bool neg, v, .int .i64 k], .int .i64 0]) ∧ IsT w' v 128 N ∧ Below w.heap.size w w' := by
  refine (unlay_any l hl w hW).mono ?_
  rintro e w' (⟨h0, _⟩ | ⟨neg', N', k', v, h0, he, hv, hb⟩)
  · rw [h] at h0; cases h0
  · rw [h] at h0
    injection h0 with h0
    injection h0 with h1 h2
    injection h2 with h2 h3
    subst h1; subst h2; subst h3
    exact ⟨v, he, hv, hb⟩
end Go.Proofs.YtdlkfnkmdlcekaaGreatDoor
