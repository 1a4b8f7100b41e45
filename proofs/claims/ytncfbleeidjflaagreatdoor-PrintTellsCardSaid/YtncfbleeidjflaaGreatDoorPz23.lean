/- How digits are written, walked: Layout. Condition: the table of powers reads as it is laid. -/
/- Rows over a script: the start meets the rows' condition. Conditions: none. -/
import Derived.Test.YtncfbleeidjflaaGreatDoorPz22
import Derived.Lib.AppendIntMem
import Derived.Test.YtncfbleeidjflaaGreatDoorPz20
import Derived.LaidOnce
namespace Go.Proofs.YtncfbleeidjflaaGreatDoor
open Go.RowKit Go.Cal
/-- What Layout tells. -/
def lyR (neg : Bool) (N : Nat) (k : Int) : List UInt8 := if DRight N k then lyT neg N k else []
theorem itoa_any (n : Int) (h0 : -100000 ≤ n) (h1 : n ≤ 100000) (w : World) (hT : Tab10 w) : Calls Tryz.prog 142 #[.int .i64 n] w fun e w' => e = .returned (.string (strL (numT n))) ∧ Below w.heap.size w w' := by
  refine (Tryz.strconv_Itoa n (by omega) (by omega) w hT).mono ?_
  rintro e w' ⟨rfl, k, os, rfl⟩
  refine ⟨?_, grow_below _ (Nat.le_refl _)⟩
  have h1 : Lib.itoa n = numT n := by
    unfold Lib.itoa numT
    by_cases h : n < 0
    · rw [if_pos h, if_pos h]
    · rw [if_neg h, if_neg h]; congr 1; omega
  rw [h1]
  rfl
set_option maxRecDepth 100000 in
set_option maxHeartbeats 1000000 in
theorem layout_no {w : World} {v : Value} {N : Nat} (neg : Bool) (k : Int) (hT : Tab10 w) (h : IsT w v 128 N) (hd : ¬ DRight N k) :
    Calls Tryz.prog 65 #[.agg #[.bool neg, v, .int .i64 k]] w fun e w' => e = .returned (.string (strL [])) ∧ Below w.heap.size w w' := by
  have hb0 := (Below.refl w.heap.size w).alloc (Nat.le_refl _) (.cells #[.bool neg, v, .int .i64 k] 51)
  have hr := right_t neg k (hT.below hb0) (h.below hb0)
  rw [decide_eq_false hd] at hr
  obtain ⟨A, c, zs, rfl, -⟩ := h
  replace hr := Lib.hid hr
  go_enter Tryz.func65, Tryz.ntmps65
  go_wp2_with fail
  refine hr.out.mono ?_
  rintro e w1 ⟨rfl, hb1⟩
  go_wp2
  go_ret
  exact ⟨rfl, chain hb0 hb1⟩
theorem isT_zeroL {w : World} {v : Value} {m : Nat} (h : IsT w v m 0) : ∃ A c, v = .slice A 0 c := by
  obtain ⟨A, c, zs, rfl, _, _, _, _, nr⟩ := h
  have : zs = [] := by
    by_cases h0 : zs = []
    · exact h0
    · have h1 := vl_pos (b := 18446744073709551616) nr.top h0
      rw [nr.val] at h1
      have := Nat.pow_pos (n := zs.length - 1) (show 0 < 18446744073709551616 by decide)
      omega
  subst this
  exact ⟨A, c, rfl⟩
set_option maxRecDepth 100000 in
set_option maxHeartbeats 1000000 in
theorem layout_0 {w : World} {v : Value} (neg : Bool) (hT : Tab10 w) (h : IsT w v 128 0) :
    Calls Tryz.prog 65 #[.agg #[.bool neg, v, .int .i64 0]] w fun e w' => e = .returned (.string (strL (lyT neg 0 0))) ∧ Below w.heap.size w w' := by
  have hb0 := (Below.refl w.heap.size w).alloc (Nat.le_refl _) (.cells #[.bool neg, v, .int .i64 0] 51)
  have hr := right_t neg 0 (hT.below hb0) (h.below hb0)
  rw [decide_eq_true (show DRight 0 0 from .inl ⟨rfl, rfl⟩)] at hr
  obtain ⟨A, c, rfl⟩ := isT_zeroL h
  have hL := (LiveP.start w |>.go hb0).put (pBlk_st _ _ _) (pBlk_made w #[.bool neg, .slice A 0 c, .int .i64 0] 51)
  have ht : (if neg = true then [45] else []) ++ [([48] : List UInt8)].flatten = lyT neg 0 0 := by cases neg <;> rfl
  have hfl : [([48] : List UInt8)].flatten.length ≤ 100000 := by decide
  replace hr := Lib.hid hr
  clear hb0
  go_enter Tryz.func65, Tryz.ntmps65
  go_wp2_with fail
  refine hr.out.mono ?_
  rintro e w1 ⟨rfl, hb⟩
  replace hL := hL.go hb
  clear hb hr
  have q0 := (hL.get (P := pBlk w.heap.size #[.bool neg, .slice A 0 c, .int .i64 0] 51) (by repeat (first | exact List.mem_cons_self | apply List.mem_cons_of_mem))).cell 0 _ rfl
  have q1 := (hL.get (P := pBlk w.heap.size #[.bool neg, .slice A 0 c, .int .i64 0] 51) (by repeat (first | exact List.mem_cons_self | apply List.mem_cons_of_mem))).cell 1 _ rfl
  have q2 := (hL.get (P := pBlk w.heap.size #[.bool neg, .slice A 0 c, .int .i64 0] 51) (by repeat (first | exact List.mem_cons_self | apply List.mem_cons_of_mem))).cell 2 _ rfl
  go_wp2_with fail
  refine (joined_lit neg _ [[48]] _ rfl 1 rfl (by decide) (by decide) hfl _ ht).mono ?_
  rintro e w2 ⟨rfl, hb⟩
  replace hL := hL.go hb
  go_wp2
  go_ret
  exact ⟨rfl, hL.below⟩
theorem numT_lenL (x : Int) (hx : x.natAbs < 10 ^ 20) : (numT x).length ≤ 21 := by
  have := (padd_dec 20 x.natAbs (by decide) hx).2
  unfold numT
  split
  · simp; omega
  · omega
theorem strL_extract (S : List UInt8) (a b : Nat) : (strL S).extract a b = strL ((S.drop a).take (b - a)) := by
  unfold strL
  refine ByteArray.ext ?_
  rw [ByteArray.data_extract]
  refine Array.toList_inj.1 ?_
  rw [Array.toList_extract]
theorem slice_to (S : List UInt8) (p : Nat) (hp : p ≤ S.length) (w : World) : (Instr.slice 9 (.string (strL S)) none (some (.int .i64 p)) none).run Tryz.prog w = .ok (.string (strL (S.take p))) w := by
  rw [run_slice_string_h _ _ _ sunder_str .i64 p (by omega) (by rw [strL_size]; omega), strL_extract, List.drop_zero, Int.toNat_natCast, Nat.sub_zero]
theorem slice_from (S : List UInt8) (p : Nat) (hp : p ≤ S.length) (w : World) : (Instr.slice 9 (.string (strL S)) (some (.int .i64 p)) none none).run Tryz.prog w = .ok (.string (strL (S.drop p))) w := by
  rw [run_slice_string_l _ _ _ sunder_str .i64 p (by omega) (by rw [strL_size]; omega), strL_extract, Int.toNat_natCast, strL_size, List.take_of_length_le (by rw [List.length_drop]; omega)]
set_option maxRecDepth 100000 in
set_option maxHeartbeats 1000000 in
theorem layout_1 {w : World} {v : Value} {N : Nat} (neg : Bool) (k : Int) (hT : Tab10 w) (h : IsT w v 128 N) (hd : DRight N k) (h0 : 0 < N) (hc : 0 ≤ k ∧ ((Lib.decDigits N).length : Int) + k ≤ 21) :
    Calls Tryz.prog 65 #[.agg #[.bool neg, v, .int .i64 k]] w fun e w' => e = .returned (.string (strL (lyT neg N k))) ∧ Below w.heap.size w w' := by
  have hb0 := (Below.refl w.heap.size w).alloc (Nat.le_refl _) (.cells #[.bool neg, v, .int .i64 k] 51)
  have hr := right_t neg k (hT.below hb0) (h.below hb0)
  rw [decide_eq_true hd] at hr
  obtain ⟨A, c, zs, rfl, hrest⟩ := id h
  have hzn : zs.length ≠ 0 := by
    intro e
    obtain ⟨_, _, _, _, hv⟩ := hrest
    rw [List.eq_nil_of_length_eq_zero e] at hv
    have : N = 0 := by rw [← hv.val]; rfl
    omega
  clear hrest
  obtain ⟨n, hn⟩ : ∃ n, zs.length = n := ⟨_, rfl⟩
  rw [hn] at hr h hb0 hzn ⊢
  clear hn
  have hL := ((LiveP.start w).put (pT_st _ _ _) h |>.go hb0).put (pBlk_st _ _ _) (pBlk_made w #[.bool neg, .slice A n c, .int .i64 k] 51)
  have hnb : ((n : Int) == 0) = false := by simpa using hzn
  have hnz : (0 : Int) ≤ n := Int.natCast_nonneg n
  obtain ⟨S, hS⟩ : ∃ S, Lib.decDigits N = S := ⟨_, rfl⟩
  rw [hS] at hc
  obtain ⟨z, hz⟩ : ∃ z, S.length = z := ⟨_, rfl⟩
  rw [hz] at hc
  have hz0 : 0 < z := by rw [← hz, ← hS]; exact List.length_pos_iff.2 (dec_ne N)
  have hzz : z ≤ 2000 := by
    rcases hd with ⟨h1, _⟩ | ⟨_, _, h1, _⟩
    · omega
    · rw [hS, hz] at h1; exact h1
  have hk5 : -5000 ≤ k ∧ k ≤ 5000 := by
    rcases hd with ⟨h1, _⟩ | ⟨_, _, _, h1, h2⟩
    · omega
    · exact ⟨h1, h2⟩
  obtain ⟨hk5, hk6⟩ := hk5
  have hsz : (strL S).size = z := by rw [strL_size, hz]
  have hzb : z ≤ maxLen := by unfold maxLen; omega
  have htx := fun (w' : World) (hb : Below w.heap.size w w') => stext_t (hT.below hb) (IsT.isN (h.below hb)) (by decide)
  rw [hS, show (⟨S.toArray⟩ : ByteArray) = strL S from rfl] at htx
  replace htx := Lib.hid htx
  replace hr := Lib.hid hr
  replace hS := Lib.hid hS
  replace hz := Lib.hid hz
  replace hd := Lib.hid hd
  clear h hb0
  go_enter Tryz.func65, Tryz.ntmps65
  go_wp2_with fail
  refine hr.out.mono ?_
  rintro e w1 ⟨rfl, hb⟩
  replace hL := hL.go hb
  clear hb hr
  have q0 := (hL.get (P := pBlk w.heap.size #[.bool neg, .slice A n c, .int .i64 k] 51) (by repeat (first | exact List.mem_cons_self | apply List.mem_cons_of_mem))).cell 0 _ rfl
  have q1 := (hL.get (P := pBlk w.heap.size #[.bool neg, .slice A n c, .int .i64 k] 51) (by repeat (first | exact List.mem_cons_self | apply List.mem_cons_of_mem))).cell 1 _ rfl
  have q2 := (hL.get (P := pBlk w.heap.size #[.bool neg, .slice A n c, .int .i64 k] 51) (by repeat (first | exact List.mem_cons_self | apply List.mem_cons_of_mem))).cell 2 _ rfl
  go_wp2_with fail
  refine (htx.out _ hL.below).mono ?_
  rintro e w2 ⟨rfl, hb⟩
  replace hL := hL.go hb
  clear hb htx q0 q1 q2
  have q0 := (hL.get (P := pBlk w.heap.size #[.bool neg, .slice A n c, .int .i64 k] 51) (by repeat (first | exact List.mem_cons_self | apply List.mem_cons_of_mem))).cell 0 _ rfl
  have q1 := (hL.get (P := pBlk w.heap.size #[.bool neg, .slice A n c, .int .i64 k] 51) (by repeat (first | exact List.mem_cons_self | apply List.mem_cons_of_mem))).cell 1 _ rfl
  have q2 := (hL.get (P := pBlk w.heap.size #[.bool neg, .slice A n c, .int .i64 k] 51) (by repeat (first | exact List.mem_cons_self | apply List.mem_cons_of_mem))).cell 2 _ rfl
  have hfl : [S, List.replicate k.toNat 48].flatten.length ≤ 100000 := by
    have := hz.out
    simp
    omega
  have hB : lyB S k = S ++ List.replicate k.toNat 48 := by
    unfold lyB
    rw [hz.out, if_pos hc]
  have ht : (if neg = true then [45] else []) ++ [S, List.replicate k.toNat 48].flatten = lyT neg N k := by
    rw [lyT, lyS_pos h0, hS.out, hB]
    simp
  obtain ⟨hc1, hc2⟩ := hc
  have hlt := cell_lt q0
  have hk9 : k ≤ 100000 := by omega
  go_wp2
  go_region_law (first | (go_simp; go_at_call 141; refine (zeros_any k hc1 hk9 _).mono ?_; rintro e w5 ⟨rfl, hb5⟩; have c0 := (hb5.cell (p := ⟨w.heap.size, 0, none⟩) hlt).trans q0; have e5 : w.heap.size < w5.heap.size := Nat.lt_of_lt_of_le hlt hb5.size) | (go_simp; go_at_call 140; refine (joined_lit neg _ [S, List.replicate k.toNat 48] _ rfl 2 rfl (by decide) (by decide) hfl _ ht).mono ?_; rintro e w6 ⟨rfl, hb6⟩; have hfin := chain (chain hL.below.drew hb5) hb6))
  all_goals
    go_wp2
    go_ret
    exact ⟨rfl, hfin⟩
set_option maxRecDepth 100000 in
set_option maxHeartbeats 1000000 in
theorem layout_2 {w : World} {v : Value} {N : Nat} (neg : Bool) (k : Int) (hT : Tab10 w) (h : IsT w v 128 N) (hd : DRight N k) (h0 : 0 < N) (hc : k < 0 ∧ 0 < ((Lib.decDigits N).length : Int) + k ∧ ((Lib.decDigits N).length : Int) + k ≤ 21) :
    Calls Tryz.prog 65 #[.agg #[.bool neg, v, .int .i64 k]] w fun e w' => e = .returned (.string (strL (lyT neg N k))) ∧ Below w.heap.size w w' := by
  have hb0 := (Below.refl w.heap.size w).alloc (Nat.le_refl _) (.cells #[.bool neg, v, .int .i64 k] 51)
  have hr := right_t neg k (hT.below hb0) (h.below hb0)
  rw [decide_eq_true hd] at hr
  obtain ⟨A, c, zs, rfl, hrest⟩ := id h
  have hzn : zs.length ≠ 0 := by
    intro e
    obtain ⟨_, _, _, _, hv⟩ := hrest
    rw [List.eq_nil_of_length_eq_zero e] at hv
    have : N = 0 := by rw [← hv.val]; rfl
    omega
  clear hrest
  obtain ⟨n, hn⟩ : ∃ n, zs.length = n := ⟨_, rfl⟩
  rw [hn] at hr h hb0 hzn ⊢
  clear hn
  have hL := ((LiveP.start w).put (pT_st _ _ _) h |>.go hb0).put (pBlk_st _ _ _) (pBlk_made w #[.bool neg, .slice A n c, .int .i64 k] 51)
  have hnb : ((n : Int) == 0) = false := by simpa using hzn
  have hnz : (0 : Int) ≤ n := Int.natCast_nonneg n
  obtain ⟨S, hS⟩ : ∃ S, Lib.decDigits N = S := ⟨_, rfl⟩
  rw [hS] at hc
  obtain ⟨z, hz⟩ : ∃ z, S.length = z := ⟨_, rfl⟩
  rw [hz] at hc
  have hz0 : 0 < z := by rw [← hz, ← hS]; exact List.length_pos_iff.2 (dec_ne N)
  have hzz : z ≤ 2000 := by
    rcases hd with ⟨h1, _⟩ | ⟨_, _, h1, _⟩
    · omega
    · rw [hS, hz] at h1; exact h1
  have hk5 : -5000 ≤ k ∧ k ≤ 5000 := by
    rcases hd with ⟨h1, _⟩ | ⟨_, _, _, h1, h2⟩
    · omega
    · exact ⟨h1, h2⟩
  obtain ⟨hk5, hk6⟩ := hk5
  have hsz : (strL S).size = z := by rw [strL_size, hz]
  have hzb : z ≤ maxLen := by unfold maxLen; omega
  have htx := fun (w' : World) (hb : Below w.heap.size w w') => stext_t (hT.below hb) (IsT.isN (h.below hb)) (by decide)
  rw [hS, show (⟨S.toArray⟩ : ByteArray) = strL S from rfl] at htx
  replace htx := Lib.hid htx
  replace hr := Lib.hid hr
  replace hS := Lib.hid hS
  replace hz := Lib.hid hz
  replace hd := Lib.hid hd
  clear h hb0
  go_enter Tryz.func65, Tryz.ntmps65
  go_wp2_with fail
  refine hr.out.mono ?_
  rintro e w1 ⟨rfl, hb⟩
  replace hL := hL.go hb
  clear hb hr
  have q0 := (hL.get (P := pBlk w.heap.size #[.bool neg, .slice A n c, .int .i64 k] 51) (by repeat (first | exact List.mem_cons_self | apply List.mem_cons_of_mem))).cell 0 _ rfl
  have q1 := (hL.get (P := pBlk w.heap.size #[.bool neg, .slice A n c, .int .i64 k] 51) (by repeat (first | exact List.mem_cons_self | apply List.mem_cons_of_mem))).cell 1 _ rfl
  have q2 := (hL.get (P := pBlk w.heap.size #[.bool neg, .slice A n c, .int .i64 k] 51) (by repeat (first | exact List.mem_cons_self | apply List.mem_cons_of_mem))).cell 2 _ rfl
  go_wp2_with fail
  refine (htx.out _ hL.below).mono ?_
  rintro e w2 ⟨rfl, hb⟩
  replace hL := hL.go hb
  clear hb htx q0 q1 q2
  have q0 := (hL.get (P := pBlk w.heap.size #[.bool neg, .slice A n c, .int .i64 k] 51) (by repeat (first | exact List.mem_cons_self | apply List.mem_cons_of_mem))).cell 0 _ rfl
  have q1 := (hL.get (P := pBlk w.heap.size #[.bool neg, .slice A n c, .int .i64 k] 51) (by repeat (first | exact List.mem_cons_self | apply List.mem_cons_of_mem))).cell 1 _ rfl
  have q2 := (hL.get (P := pBlk w.heap.size #[.bool neg, .slice A n c, .int .i64 k] 51) (by repeat (first | exact List.mem_cons_self | apply List.mem_cons_of_mem))).cell 2 _ rfl
  obtain ⟨p, hp⟩ : ∃ p : Nat, (z : Int) + k = p := ⟨((z : Int) + k).toNat, by omega⟩
  have hfl : [S.take p, [46], S.drop p].flatten.length ≤ 100000 := by
    have := hz.out
    simp
    omega
  have hB : lyB S k = S.take p ++ 46 :: S.drop p := by
    unfold lyB
    rw [hz.out, if_neg (by omega), if_pos ⟨by omega, by omega⟩, hp, Int.toNat_natCast]
  have ht : (if neg = true then [45] else []) ++ [S.take p, [46], S.drop p].flatten = lyT neg N k := by
    rw [lyT, lyS_pos h0, hS.out, hB]
    simp
  obtain ⟨hc1, hc2, hc3⟩ := hc
  have hlt := cell_lt q0
  have hp1 : p ≤ z := by omega
  have hp2 : (0 : Int) < p := by omega
  have hp3 : (p : Int) ≤ 21 := by omega
  have hkn : ¬ 0 ≤ k := by omega
  have hs1 := fun w => slice_to S p (by have := hz.out; omega) w
  have hs2 := fun w => slice_from S p (by have := hz.out; omega) w
  clear hB
  go_wp2
  go_region_law (go_simp; go_at_call 140; refine (joined_litD neg _ [S.take p, [46], S.drop p] _ rfl 3 rfl (by decide) (by decide) hfl _ ht).mono ?_; rintro e w6 ⟨rfl, hb6⟩; have hfin := chain hL.below hb6)
  all_goals
    go_wp2
    go_ret
    exact ⟨rfl, hfin⟩
set_option maxRecDepth 100000 in
set_option maxHeartbeats 1000000 in
theorem layout_3 {w : World} {v : Value} {N : Nat} (neg : Bool) (k : Int) (hT : Tab10 w) (h : IsT w v 128 N) (hd : DRight N k) (h0 : 0 < N) (hc : -6 < ((Lib.decDigits N).length : Int) + k ∧ ((Lib.decDigits N).length : Int) + k ≤ 0) :
    Calls Tryz.prog 65 #[.agg #[.bool neg, v, .int .i64 k]] w fun e w' => e = .returned (.string (strL (lyT neg N k))) ∧ Below w.heap.size w w' := by
  have hb0 := (Below.refl w.heap.size w).alloc (Nat.le_refl _) (.cells #[.bool neg, v, .int .i64 k] 51)
  have hr := right_t neg k (hT.below hb0) (h.below hb0)
  rw [decide_eq_true hd] at hr
  obtain ⟨A, c, zs, rfl, hrest⟩ := id h
  have hzn : zs.length ≠ 0 := by
    intro e
    obtain ⟨_, _, _, _, hv⟩ := hrest
    rw [List.eq_nil_of_length_eq_zero e] at hv
    have : N = 0 := by rw [← hv.val]; rfl
    omega
  clear hrest
  obtain ⟨n, hn⟩ : ∃ n, zs.length = n := ⟨_, rfl⟩
  rw [hn] at hr h hb0 hzn ⊢
  clear hn
  have hL := ((LiveP.start w).put (pT_st _ _ _) h |>.go hb0).put (pBlk_st _ _ _) (pBlk_made w #[.bool neg, .slice A n c, .int .i64 k] 51)
  have hnb : ((n : Int) == 0) = false := by simpa using hzn
  have hnz : (0 : Int) ≤ n := Int.natCast_nonneg n
  obtain ⟨S, hS⟩ : ∃ S, Lib.decDigits N = S := ⟨_, rfl⟩
  rw [hS] at hc
  obtain ⟨z, hz⟩ : ∃ z, S.length = z := ⟨_, rfl⟩
  rw [hz] at hc
  have hz0 : 0 < z := by rw [← hz, ← hS]; exact List.length_pos_iff.2 (dec_ne N)
  have hzz : z ≤ 2000 := by
    rcases hd with ⟨h1, _⟩ | ⟨_, _, h1, _⟩
    · omega
    · rw [hS, hz] at h1; exact h1
  have hk5 : -5000 ≤ k ∧ k ≤ 5000 := by
    rcases hd with ⟨h1, _⟩ | ⟨_, _, _, h1, h2⟩
    · omega
    · exact ⟨h1, h2⟩
  obtain ⟨hk5, hk6⟩ := hk5
  have hsz : (strL S).size = z := by rw [strL_size, hz]
  have hzb : z ≤ maxLen := by unfold maxLen; omega
  have htx := fun (w' : World) (hb : Below w.heap.size w w') => stext_t (hT.below hb) (IsT.isN (h.below hb)) (by decide)
  rw [hS, show (⟨S.toArray⟩ : ByteArray) = strL S from rfl] at htx
  replace htx := Lib.hid htx
  replace hr := Lib.hid hr
  replace hS := Lib.hid hS
  replace hz := Lib.hid hz
  replace hd := Lib.hid hd
  clear h hb0
  go_enter Tryz.func65, Tryz.ntmps65
  go_wp2_with fail
  refine hr.out.mono ?_
  rintro e w1 ⟨rfl, hb⟩
  replace hL := hL.go hb
  clear hb hr
  have q0 := (hL.get (P := pBlk w.heap.size #[.bool neg, .slice A n c, .int .i64 k] 51) (by repeat (first | exact List.mem_cons_self | apply List.mem_cons_of_mem))).cell 0 _ rfl
  have q1 := (hL.get (P := pBlk w.heap.size #[.bool neg, .slice A n c, .int .i64 k] 51) (by repeat (first | exact List.mem_cons_self | apply List.mem_cons_of_mem))).cell 1 _ rfl
  have q2 := (hL.get (P := pBlk w.heap.size #[.bool neg, .slice A n c, .int .i64 k] 51) (by repeat (first | exact List.mem_cons_self | apply List.mem_cons_of_mem))).cell 2 _ rfl
  go_wp2_with fail
  refine (htx.out _ hL.below).mono ?_
  rintro e w2 ⟨rfl, hb⟩
  replace hL := hL.go hb
  clear hb htx q0 q1 q2
  have q0 := (hL.get (P := pBlk w.heap.size #[.bool neg, .slice A n c, .int .i64 k] 51) (by repeat (first | exact List.mem_cons_self | apply List.mem_cons_of_mem))).cell 0 _ rfl
  have q1 := (hL.get (P := pBlk w.heap.size #[.bool neg, .slice A n c, .int .i64 k] 51) (by repeat (first | exact List.mem_cons_self | apply List.mem_cons_of_mem))).cell 1 _ rfl
  have q2 := (hL.get (P := pBlk w.heap.size #[.bool neg, .slice A n c, .int .i64 k] 51) (by repeat (first | exact List.mem_cons_self | apply List.mem_cons_of_mem))).cell 2 _ rfl
  have hfl : [[48, 46], List.replicate (-((z : Int) + k)).toNat 48, S].flatten.length ≤ 100000 := by
    have := hz.out
    simp
    omega
  have hB : lyB S k = 48 :: 46 :: (List.replicate (-((z : Int) + k)).toNat 48 ++ S) := by
    unfold lyB
    rw [hz.out, if_neg (by omega), if_neg (by omega), if_pos hc]
  have ht : (if neg = true then [45] else []) ++ [[48, 46], List.replicate (-((z : Int) + k)).toNat 48, S].flatten = lyT neg N k := by
    rw [lyT, lyS_pos h0, hS.out, hB]
    simp
  obtain ⟨hc1, hc2⟩ := hc
  have hlt := cell_lt q0
  obtain ⟨m, hm⟩ : ∃ m : Nat, -((z : Int) + k) = m := ⟨(-((z : Int) + k)).toNat, by omega⟩
  rw [hm] at hfl ht
  have hwr : IntKind.i64.wrap (-((z : Int) + k)) = (m : Int) := by
    rw [hm]
    unfold IntKind.wrap IntKind.bits IntKind.signed
    simp
    omega
  have hwr2 : IntKind.i64.wrap (m : Int) = (m : Int) := by
    unfold IntKind.wrap IntKind.bits IntKind.signed
    simp
    omega
  have hm1 : (0 : Int) ≤ m := by omega
  have hm2 : (m : Int) ≤ 100000 := by omega
  clear hB
  have hkn : ¬ 0 ≤ k := by omega
  have hpn : ¬ 0 < (z : Int) + k := by omega
  go_wp2
  go_region_law (first | (go_simp; go_at_call 141; refine (zeros_any (m : Int) hm1 hm2 _).mono ?_; rintro e w5 ⟨rfl, hb5⟩; have c0 := (hb5.cell (p := ⟨w.heap.size, 0, none⟩) hlt).trans q0; have e5 : w.heap.size < w5.heap.size := Nat.lt_of_lt_of_le hlt hb5.size) | (go_simp; go_at_call 140; refine (joined_lit neg _ [[48, 46], List.replicate (m : Int).toNat 48, S] _ rfl 3 rfl (by decide) (by decide) hfl _ ht).mono ?_; rintro e w6 ⟨rfl, hb6⟩; have hfin := chain (chain hL.below.drew hb5) hb6))
  all_goals
    go_wp2
    go_ret
    exact ⟨rfl, hfin⟩
set_option maxRecDepth 100000 in
set_option maxHeartbeats 1000000 in
theorem layout_4 {w : World} {v : Value} {N : Nat} (neg : Bool) (k : Int) (hT : Tab10 w) (h : IsT w v 128 N) (hd : DRight N k) (h0 : 0 < N) (hc : (21 < ((Lib.decDigits N).length : Int) + k ∨ ((Lib.decDigits N).length : Int) + k ≤ -6) ∧ ((Lib.decDigits N).length : Int) = 1) :
    Calls Tryz.prog 65 #[.agg #[.bool neg, v, .int .i64 k]] w fun e w' => e = .returned (.string (strL (lyT neg N k))) ∧ Below w.heap.size w w' := by
  have hb0 := (Below.refl w.heap.size w).alloc (Nat.le_refl _) (.cells #[.bool neg, v, .int .i64 k] 51)
  have hr := right_t neg k (hT.below hb0) (h.below hb0)
  rw [decide_eq_true hd] at hr
  obtain ⟨A, c, zs, rfl, hrest⟩ := id h
  have hzn : zs.length ≠ 0 := by
    intro e
    obtain ⟨_, _, _, _, hv⟩ := hrest
    rw [List.eq_nil_of_length_eq_zero e] at hv
    have : N = 0 := by rw [← hv.val]; rfl
    omega
  clear hrest
  obtain ⟨n, hn⟩ : ∃ n, zs.length = n := ⟨_, rfl⟩
  rw [hn] at hr h hb0 hzn ⊢
  clear hn
  have hL := ((LiveP.start w).put (pT_st _ _ _) h |>.go hb0).put (pBlk_st _ _ _) (pBlk_made w #[.bool neg, .slice A n c, .int .i64 k] 51)
  have hnb : ((n : Int) == 0) = false := by simpa using hzn
  have hnz : (0 : Int) ≤ n := Int.natCast_nonneg n
  obtain ⟨S, hS⟩ : ∃ S, Lib.decDigits N = S := ⟨_, rfl⟩
  rw [hS] at hc
  obtain ⟨z, hz⟩ : ∃ z, S.length = z := ⟨_, rfl⟩
  rw [hz] at hc
  have hz0 : 0 < z := by rw [← hz, ← hS]; exact List.length_pos_iff.2 (dec_ne N)
  have hzz : z ≤ 2000 := by
    rcases hd with ⟨h1, _⟩ | ⟨_, _, h1, _⟩
    · omega
    · rw [hS, hz] at h1; exact h1
  have hk5 : -5000 ≤ k ∧ k ≤ 5000 := by
    rcases hd with ⟨h1, _⟩ | ⟨_, _, _, h1, h2⟩
    · omega
    · exact ⟨h1, h2⟩
  obtain ⟨hk5, hk6⟩ := hk5
  have hsz : (strL S).size = z := by rw [strL_size, hz]
  have hzb : z ≤ maxLen := by unfold maxLen; omega
  have htx := fun (w' : World) (hb : Below w.heap.size w w') => stext_t (hT.below hb) (IsT.isN (h.below hb)) (by decide)
  rw [hS, show (⟨S.toArray⟩ : ByteArray) = strL S from rfl] at htx
  replace htx := Lib.hid htx
  replace hr := Lib.hid hr
  replace hS := Lib.hid hS
  replace hz := Lib.hid hz
  replace hd := Lib.hid hd
  clear h hb0
  go_enter Tryz.func65, Tryz.ntmps65
  go_wp2_with fail
  refine hr.out.mono ?_
  rintro e w1 ⟨rfl, hb⟩
  replace hL := hL.go hb
  clear hb hr
  have q0 := (hL.get (P := pBlk w.heap.size #[.bool neg, .slice A n c, .int .i64 k] 51) (by repeat (first | exact List.mem_cons_self | apply List.mem_cons_of_mem))).cell 0 _ rfl
  have q1 := (hL.get (P := pBlk w.heap.size #[.bool neg, .slice A n c, .int .i64 k] 51) (by repeat (first | exact List.mem_cons_self | apply List.mem_cons_of_mem))).cell 1 _ rfl
  have q2 := (hL.get (P := pBlk w.heap.size #[.bool neg, .slice A n c, .int .i64 k] 51) (by repeat (first | exact List.mem_cons_self | apply List.mem_cons_of_mem))).cell 2 _ rfl
  go_wp2_with fail
  refine (htx.out _ hL.below).mono ?_
  rintro e w2 ⟨rfl, hb⟩
  replace hL := hL.go hb
  clear hb htx q0 q1 q2
  have q0 := (hL.get (P := pBlk w.heap.size #[.bool neg, .slice A n c, .int .i64 k] 51) (by repeat (first | exact List.mem_cons_self | apply List.mem_cons_of_mem))).cell 0 _ rfl
  have q1 := (hL.get (P := pBlk w.heap.size #[.bool neg, .slice A n c, .int .i64 k] 51) (by repeat (first | exact List.mem_cons_self | apply List.mem_cons_of_mem))).cell 1 _ rfl
  have q2 := (hL.get (P := pBlk w.heap.size #[.bool neg, .slice A n c, .int .i64 k] 51) (by repeat (first | exact List.mem_cons_self | apply List.mem_cons_of_mem))).cell 2 _ rfl
  have hfl : [S, [101], numT ((z : Int) + k - 1)].flatten.length ≤ 100000 := by
    have := hz.out
    have := numT_lenL ((z : Int) + k - 1) (by omega)
    simp
    omega
  have hB : lyB S k = S ++ 101 :: numT ((z : Int) + k - 1) := by
    unfold lyB
    rw [hz.out, if_neg (by omega), if_neg (by omega), if_neg (by omega), if_pos (by omega)]
  have ht : (if neg = true then [45] else []) ++ [S, [101], numT ((z : Int) + k - 1)].flatten = lyT neg N k := by
    rw [lyT, lyS_pos h0, hS.out, hB]
    simp
  obtain ⟨hcf, hc1⟩ := hc
  have hlt := cell_lt q0
  obtain ⟨u, hu⟩ : ∃ u, numT ((z : Int) + k - 1) = u := ⟨_, rfl⟩
  rw [hu] at hfl ht
  have hT2 : Tab10 w2.drew := (hT.below hL.below).below (Below.refl _ _).drew
  clear hB
  have hm1 : -100000 ≤ (z : Int) + k - 1 := by omega
  have hm2 : (z : Int) + k - 1 ≤ 100000 := by omega
  have hit := itoa_any ((z : Int) + k - 1) hm1 hm2 _ hT2
  rw [hu] at hit
  replace hit := Lib.hid hit
  replace hu := Lib.hid hu
  have hwr : IntKind.i64.wrap ((z : Int) + k - 1) = (z : Int) + k - 1 := by
    unfold IntKind.wrap IntKind.bits IntKind.signed
    simp
    omega
  have hz1 : ((z : Int) == 1) = true := by simpa using hc1
  replace hc1 := Lib.hid hc1
  have hf1 : ¬ (0 ≤ k ∧ (z : Int) + k ≤ 21) := by omega
  have hf2 : ¬ (0 < (z : Int) + k ∧ (z : Int) + k ≤ 21) := by omega
  have hf3 : ¬ (-6 < (z : Int) + k ∧ (z : Int) + k ≤ 0) := by omega
  by_cases hcf' : 21 < (z : Int) + k
  · have hg1 : ¬ (z : Int) + k ≤ 21 := by omega
    have hg2 : 0 < (z : Int) + k := by omega
    have hg3 : -6 < (z : Int) + k := by omega
    have hg4 : ¬ (z : Int) + k ≤ 0 := by omega
    clear hf1 hf2 hf3 hcf
    go_wp2
    all_goals go_region_law (first | (go_simp; go_at_call 142; refine Calls.mono hit.out ?_; rintro e w5 ⟨rfl, hb5⟩; have c0 := (hb5.cell (p := ⟨w.heap.size, 0, none⟩) hlt).trans q0; have e5 : w.heap.size < w5.heap.size := Nat.lt_of_lt_of_le hlt hb5.size) | (go_simp; go_at_call 140; refine (joined_lit neg _ [S, [101], u] _ rfl 3 rfl (by decide) (by decide) hfl _ ht).mono ?_; rintro e w6 ⟨rfl, hb6⟩; have hfin := chain (chain hL.below.drew hb5) hb6))
    all_goals
      go_wp2
      go_ret
      exact ⟨rfl, hfin⟩
  · have hg1 : (z : Int) + k ≤ 21 := by omega
    have hg2 : ¬ 0 < (z : Int) + k := by omega
    have hg3 : ¬ -6 < (z : Int) + k := by omega
    have hg4 : ¬ 0 ≤ k := by omega
    clear hf1 hf2 hf3 hcf
    go_wp2
    all_goals go_region_law (first | (go_simp; go_at_call 142; refine Calls.mono hit.out ?_; rintro e w5 ⟨rfl, hb5⟩; have c0 := (hb5.cell (p := ⟨w.heap.size, 0, none⟩) hlt).trans q0; have e5 : w.heap.size < w5.heap.size := Nat.lt_of_lt_of_le hlt hb5.size) | (go_simp; go_at_call 140; refine (joined_lit neg _ [S, [101], u] _ rfl 3 rfl (by decide) (by decide) hfl _ ht).mono ?_; rintro e w6 ⟨rfl, hb6⟩; have hfin := chain (chain hL.below.drew hb5) hb6))
    all_goals
      go_wp2
      go_ret
      exact ⟨rfl, hfin⟩
set_option maxRecDepth 100000 in
set_option maxHeartbeats 1000000 in
theorem layout_5 {w : World} {v : Value} {N : Nat} (neg : Bool) (k : Int) (hT : Tab10 w) (h : IsT w v 128 N) (hd : DRight N k) (h0 : 0 < N) (hc : (21 < ((Lib.decDigits N).length : Int) + k ∨ ((Lib.decDigits N).length : Int) + k ≤ -6) ∧ ((Lib.decDigits N).length : Int) ≠ 1) :
    Calls Tryz.prog 65 #[.agg #[.bool neg, v, .int .i64 k]] w fun e w' => e = .returned (.string (strL (lyT neg N k))) ∧ Below w.heap.size w w' := by
  have hb0 := (Below.refl w.heap.size w).alloc (Nat.le_refl _) (.cells #[.bool neg, v, .int .i64 k] 51)
  have hr := right_t neg k (hT.below hb0) (h.below hb0)
  rw [decide_eq_true hd] at hr
  obtain ⟨A, c, zs, rfl, hrest⟩ := id h
  have hzn : zs.length ≠ 0 := by
    intro e
    obtain ⟨_, _, _, _, hv⟩ := hrest
    rw [List.eq_nil_of_length_eq_zero e] at hv
    have : N = 0 := by rw [← hv.val]; rfl
    omega
  clear hrest
  obtain ⟨n, hn⟩ : ∃ n, zs.length = n := ⟨_, rfl⟩
  rw [hn] at hr h hb0 hzn ⊢
  clear hn
  have hL := ((LiveP.start w).put (pT_st _ _ _) h |>.go hb0).put (pBlk_st _ _ _) (pBlk_made w #[.bool neg, .slice A n c, .int .i64 k] 51)
  have hnb : ((n : Int) == 0) = false := by simpa using hzn
  have hnz : (0 : Int) ≤ n := Int.natCast_nonneg n
  obtain ⟨S, hS⟩ : ∃ S, Lib.decDigits N = S := ⟨_, rfl⟩
  rw [hS] at hc
  obtain ⟨z, hz⟩ : ∃ z, S.length = z := ⟨_, rfl⟩
  rw [hz] at hc
  have hz0 : 0 < z := by rw [← hz, ← hS]; exact List.length_pos_iff.2 (dec_ne N)
  have hzz : z ≤ 2000 := by
    rcases hd with ⟨h1, _⟩ | ⟨_, _, h1, _⟩
    · omega
    · rw [hS, hz] at h1; exact h1
  have hk5 : -5000 ≤ k ∧ k ≤ 5000 := by
    rcases hd with ⟨h1, _⟩ | ⟨_, _, _, h1, h2⟩
    · omega
    · exact ⟨h1, h2⟩
  obtain ⟨hk5, hk6⟩ := hk5
  have hsz : (strL S).size = z := by rw [strL_size, hz]
  have hzb : z ≤ maxLen := by unfold maxLen; omega
  have htx := fun (w' : World) (hb : Below w.heap.size w w') => stext_t (hT.below hb) (IsT.isN (h.below hb)) (by decide)
  rw [hS, show (⟨S.toArray⟩ : ByteArray) = strL S from rfl] at htx
  replace htx := Lib.hid htx
  replace hr := Lib.hid hr
  replace hS := Lib.hid hS
  replace hz := Lib.hid hz
  replace hd := Lib.hid hd
  clear h hb0
  go_enter Tryz.func65, Tryz.ntmps65
  go_wp2_with fail
  refine hr.out.mono ?_
  rintro e w1 ⟨rfl, hb⟩
  replace hL := hL.go hb
  clear hb hr
  have q0 := (hL.get (P := pBlk w.heap.size #[.bool neg, .slice A n c, .int .i64 k] 51) (by repeat (first | exact List.mem_cons_self | apply List.mem_cons_of_mem))).cell 0 _ rfl
  have q1 := (hL.get (P := pBlk w.heap.size #[.bool neg, .slice A n c, .int .i64 k] 51) (by repeat (first | exact List.mem_cons_self | apply List.mem_cons_of_mem))).cell 1 _ rfl
  have q2 := (hL.get (P := pBlk w.heap.size #[.bool neg, .slice A n c, .int .i64 k] 51) (by repeat (first | exact List.mem_cons_self | apply List.mem_cons_of_mem))).cell 2 _ rfl
  go_wp2_with fail
  refine (htx.out _ hL.below).mono ?_
  rintro e w2 ⟨rfl, hb⟩
  replace hL := hL.go hb
  clear hb htx q0 q1 q2
  have q0 := (hL.get (P := pBlk w.heap.size #[.bool neg, .slice A n c, .int .i64 k] 51) (by repeat (first | exact List.mem_cons_self | apply List.mem_cons_of_mem))).cell 0 _ rfl
  have q1 := (hL.get (P := pBlk w.heap.size #[.bool neg, .slice A n c, .int .i64 k] 51) (by repeat (first | exact List.mem_cons_self | apply List.mem_cons_of_mem))).cell 1 _ rfl
  have q2 := (hL.get (P := pBlk w.heap.size #[.bool neg, .slice A n c, .int .i64 k] 51) (by repeat (first | exact List.mem_cons_self | apply List.mem_cons_of_mem))).cell 2 _ rfl
  have hfl : [S.take 1, [46], S.drop 1, [101], numT ((z : Int) + k - 1)].flatten.length ≤ 100000 := by
    have := hz.out
    have := numT_lenL ((z : Int) + k - 1) (by omega)
    simp
    omega
  have hB : lyB S k = S.take 1 ++ 46 :: (S.drop 1 ++ 101 :: numT ((z : Int) + k - 1)) := by
    unfold lyB
    rw [hz.out, if_neg (by omega), if_neg (by omega), if_neg (by omega), if_neg (by omega)]
  have ht : (if neg = true then [45] else []) ++ [S.take 1, [46], S.drop 1, [101], numT ((z : Int) + k - 1)].flatten = lyT neg N k := by
    rw [lyT, lyS_pos h0, hS.out, hB]
    simp
  obtain ⟨hcf, hc1⟩ := hc
  have hlt := cell_lt q0
  have hs1 : ∀ w, (Instr.slice 9 (.string (strL S)) none (some (.int .i64 1)) none).run Tryz.prog w = .ok (.string (strL (S.take 1))) w := fun w => slice_to S 1 (by have := hz.out; omega) w
  have hs2 : ∀ w, (Instr.slice 9 (.string (strL S)) (some (.int .i64 1)) none none).run Tryz.prog w = .ok (.string (strL (S.drop 1))) w := fun w => slice_from S 1 (by have := hz.out; omega) w
  obtain ⟨s1, hs1e⟩ : ∃ x, S.take 1 = x := ⟨_, rfl⟩
  obtain ⟨s2, hs2e⟩ : ∃ x, S.drop 1 = x := ⟨_, rfl⟩
  rw [hs1e] at hs1 hfl ht
  rw [hs2e] at hs2 hfl ht
  clear hs1e hs2e
  obtain ⟨u, hu⟩ : ∃ u, numT ((z : Int) + k - 1) = u := ⟨_, rfl⟩
  rw [hu] at hfl ht
  have hT2 : Tab10 w2.drew := (hT.below hL.below).below (Below.refl _ _).drew
  clear hB
  have hm1 : -100000 ≤ (z : Int) + k - 1 := by omega
  have hm2 : (z : Int) + k - 1 ≤ 100000 := by omega
  have hit := itoa_any ((z : Int) + k - 1) hm1 hm2 _ hT2
  rw [hu] at hit
  replace hit := Lib.hid hit
  replace hu := Lib.hid hu
  have hwr : IntKind.i64.wrap ((z : Int) + k - 1) = (z : Int) + k - 1 := by
    unfold IntKind.wrap IntKind.bits IntKind.signed
    simp
    omega
  have hz1 : ((z : Int) == 1) = false := by simpa using hc1
  have hf1 : ¬ (0 ≤ k ∧ (z : Int) + k ≤ 21) := by omega
  have hf2 : ¬ (0 < (z : Int) + k ∧ (z : Int) + k ≤ 21) := by omega
  have hf3 : ¬ (-6 < (z : Int) + k ∧ (z : Int) + k ≤ 0) := by omega
  by_cases hcf' : 21 < (z : Int) + k
  · have hg1 : ¬ (z : Int) + k ≤ 21 := by omega
    have hg2 : 0 < (z : Int) + k := by omega
    have hg3 : -6 < (z : Int) + k := by omega
    have hg4 : ¬ (z : Int) + k ≤ 0 := by omega
    clear hf1 hf2 hf3 hcf
    go_wp2
    all_goals go_region_law (first | (go_simp; go_at_call 142; refine Calls.mono hit.out ?_; rintro e w5 ⟨rfl, hb5⟩; have c0 := (hb5.cell (p := ⟨w.heap.size, 0, none⟩) hlt).trans q0; have e5 : w.heap.size < w5.heap.size := Nat.lt_of_lt_of_le hlt hb5.size) | (go_simp; go_at_call 140; refine (joined_lit neg _ [s1, [46], s2, [101], u] _ rfl 5 rfl (by decide) (by decide) hfl _ ht).mono ?_; rintro e w6 ⟨rfl, hb6⟩; have hfin := chain (chain hL.below.drew hb5) hb6))
    all_goals
      go_wp2
      go_ret
      exact ⟨rfl, hfin⟩
  · have hg1 : (z : Int) + k ≤ 21 := by omega
    have hg2 : ¬ 0 < (z : Int) + k := by omega
    have hg3 : ¬ -6 < (z : Int) + k := by omega
    have hg4 : ¬ 0 ≤ k := by omega
    clear hf1 hf2 hf3 hcf
    go_wp2
    all_goals go_region_law (first | (go_simp; go_at_call 142; refine Calls.mono hit.out ?_; rintro e w5 ⟨rfl, hb5⟩; have c0 := (hb5.cell (p := ⟨w.heap.size, 0, none⟩) hlt).trans q0; have e5 : w.heap.size < w5.heap.size := Nat.lt_of_lt_of_le hlt hb5.size) | (go_simp; go_at_call 140; refine (joined_lit neg _ [s1, [46], s2, [101], u] _ rfl 5 rfl (by decide) (by decide) hfl _ ht).mono ?_; rintro e w6 ⟨rfl, hb6⟩; have hfin := chain (chain hL.below.drew hb5) hb6))
    all_goals
      go_wp2
      go_ret
      exact ⟨rfl, hfin⟩
/-- Layout, whole. -/
theorem layout_any {w : World} {v : Value} {N : Nat} (neg : Bool) (k : Int) (hT : Tab10 w) (h : IsT w v 128 N) :
    Calls Tryz.prog 65 #[.agg #[.bool neg, v, .int .i64 k]] w fun e w' => e = .returned (.string (strL (lyR neg N k))) ∧ Below w.heap.size w w' := by
  by_cases hd : DRight N k
  · have hr : lyR neg N k = lyT neg N k := by unfold lyR; rw [if_pos hd]
    rw [hr]
    rcases Nat.eq_zero_or_pos N with h0 | h0
    · subst h0
      obtain rfl : k = 0 := by
        rcases hd with ⟨_, h⟩ | ⟨h, _⟩
        · exact h
        · omega
      exact layout_0 neg hT h
    · obtain ⟨z, hz⟩ : ∃ z, (Lib.decDigits N).length = z := ⟨_, rfl⟩
      by_cases c1 : 0 ≤ k ∧ (z : Int) + k ≤ 21
      · exact layout_1 neg k hT h hd h0 (by rw [hz]; exact c1)
      · by_cases c2 : k < 0 ∧ 0 < (z : Int) + k ∧ (z : Int) + k ≤ 21
        · exact layout_2 neg k hT h hd h0 (by rw [hz]; exact c2)
        · by_cases c3 : -6 < (z : Int) + k ∧ (z : Int) + k ≤ 0
          · exact layout_3 neg k hT h hd h0 (by rw [hz]; exact c3)
          · by_cases c4 : (z : Int) = 1
            · exact layout_4 neg k hT h hd h0 (by rw [hz]; exact ⟨by omega, c4⟩)
            · exact layout_5 neg k hT h hd h0 (by rw [hz]; exact ⟨by omega, c4⟩)
  · have hr : lyR neg N k = [] := by unfold lyR; rw [if_neg hd]
    rw [hr]
    exact layout_no neg k hT h hd
end Go.Proofs.YtncfbleeidjflaaGreatDoor
namespace Go.Proofs.YtncfbleeidjflaaGreatDoor
open Go.ChangeShapes Go.WideShapes Go.ChangeAt Go.RowKit Go.Cal
theorem laidMet_of_bits {P : Program} {w : World} {l : List (String × DataW Unit)} (fuel M : Nat) (h : (DataW.laidRun P w fuel (l.map (·.1))).map (·.1) = some l)
    (hr : (DataW.laidRun P w fuel (l.map (·.1))).map (fun x => nodupBits M x.2 0 && laidRowsB P w x.2) = some true) : laidMet P l w := by
  cases hx : DataW.laidRun P w fuel (l.map (·.1)) with
  | none => simp [hx] at h
  | some x =>
    obtain ⟨l', ps⟩ := x
    simp only [hx, Option.map_some, Option.some.injEq] at h hr
    subst h
    simp only [Bool.and_eq_true] at hr
    exact laidMet_of_run fuel hx (decide_eq_true (nodupBits_sound hr.1).1) hr.2
end Go.Proofs.YtncfbleeidjflaaGreatDoor
