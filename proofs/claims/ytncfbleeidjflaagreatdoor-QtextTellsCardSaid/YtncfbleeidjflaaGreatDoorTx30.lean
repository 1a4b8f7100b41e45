/- The laws QtextArgs and QtextMoves, walked. Condition: the table of powers reads as it is laid. -/
/- The laws QtextTells and QtextParses, walked. Condition: the table of powers reads as it is laid. -/
import Derived.Test.YtncfbleeidjflaaGreatDoorTx27
import Derived.Test.YtncfbleeidjflaaGreatDoorTx23
import Derived.Test.YtncfbleeidjflaaGreatDoorTx25
import Derived.Test.YtncfbleeidjflaaGreatDoorTx29
import Derived.Laws.IdiomStrings
namespace Go.Proofs.YtncfbleeidjflaaGreatDoor
open Go.RowKit Go.Cal
theorem tmod_bnd (e n : Int) (hn : 0 < n) : -n < e.tmod n ∧ e.tmod n < n := by
  rcases Int.le_total 0 e with h | h
  · rw [Int.tmod_eq_emod_of_nonneg h]
    have := Int.emod_nonneg e (by omega : n ≠ 0)
    have := Int.emod_lt_of_pos e hn
    omega
  · have h2 : e.tmod n = -((-e).tmod n) := by rw [Int.neg_tmod, Int.neg_neg]
    rw [h2, Int.tmod_eq_emod_of_nonneg (by omega)]
    have := Int.emod_nonneg (-e) (by omega : n ≠ 0)
    have := Int.emod_lt_of_pos (-e) hn
    omega
end Go.Proofs.YtncfbleeidjflaaGreatDoor
namespace Go.Proofs.YtncfbleeidjflaaGreatDoor
open Go.RowKit Go.Cal
theorem strL_extractQ (S : List UInt8) (a b : Nat) : (strL S).extract a b = strL ((S.drop a).take (b - a)) := by
  unfold strL
  refine ByteArray.ext ?_
  rw [ByteArray.data_extract]
  refine Array.toList_inj.1 ?_
  rw [Array.toList_extract]
theorem slice_toQ (S : List UInt8) (p : Nat) (hp : p ≤ S.length) (w : World) : (Instr.slice 9 (.string (strL S)) none (some (.int .i64 p)) none).run Tryz.prog w = .ok (.string (strL (S.take p))) w := by
  rw [run_slice_string_h _ _ _ sunder_str .i64 p (by omega) (by rw [strL_size]; omega), strL_extractQ, List.drop_zero, Int.toNat_natCast, Nat.sub_zero]
theorem strL_backQ (s : ByteArray) : s = strL s.data.toList := by unfold strL; rw [Array.toArray_toList]
theorem qB_20 : 18446744073709551616 ^ 20 ≤ qB := by unfold qB; decide +kernel
set_option maxRecDepth 100000 in
set_option maxHeartbeats 4000000 in
theorem qtextTells_any (neg : Bool) (v : Value) (e0 : Int) (w : World) (hT : Tab10 w) (h0 : ArgN w v) (_he64 : -9223372036854775808 ≤ e0 ∧ e0 ≤ 9223372036854775807) :
    Calls Tryz.prog 6 #[.bool neg, v, .int .i64 e0] w fun e w' => e = .returned (.bool true) ∧ Below w.heap.size w w' := by
  go_enter Tryz.func6, Tryz.ntmps6
  go_wp2_with fail; refine (qshown_any w hT).mono ?_; rintro ex w1 ⟨rfl, hb⟩; have hL := (LiveP.start w).go hb; clear hb; go_wp2_with fail; refine (qfew_any 20 hL.below h0 (by decide)).mono ?_; rintro ex w1 ⟨mv, N, rfl, hv, hb⟩; replace hL := (hL.go hb).put (pT_st _ _ _) hv; clear hb hv
  have hN : N < qB := Nat.lt_of_lt_of_le (IsT.isN (hL.get (P := pT mv 20 N) (by repeat (first | exact List.mem_cons_self | apply List.mem_cons_of_mem)))).lt qB_20
  obtain ⟨e, he⟩ : ∃ e, e0.tmod 1251 = e := ⟨_, rfl⟩
  have heb : -1251 < e ∧ e < 1251 := by have := tmod_bnd e0 1251 (by decide); omega
  have he64 : -9223372036854775808 ≤ e ∧ e ≤ 9223372036854775807 := by omega
  by_cases hf : qfar e
  · go_wp2_with fail; refine (qtext_bad _ (IsT.isN (hL.get (P := pT mv 20 N) (by repeat (first | exact List.mem_cons_self | apply List.mem_cons_of_mem)))) (by decide) neg e he64 (.inl hf)).mono ?_; rintro ex w1 ⟨rfl, hb⟩; replace hL := hL.go hb; clear hb
    rcases id hf with he1 | he1
    · go_wp2
      go_ret
      exact ⟨by first | rfl | simp, hL.below⟩
    · have he' : ¬ e < -1200 := by omega
      go_wp2
      go_ret
      exact ⟨by first | rfl | simp, hL.below⟩
  · have he1 : ¬ e < -1200 := by unfold qfar at hf; omega
    have he2 : ¬ 1200 < e := by unfold qfar at hf; omega
    obtain ⟨t, ht⟩ : ∃ t, qS neg N e = t := ⟨_, rfl⟩
    go_wp2_with fail; refine (qtext_is _ t (hT.below hL.below) (IsT.isN (hL.get (P := pT mv 20 N) (by repeat (first | exact List.mem_cons_self | apply List.mem_cons_of_mem)))) (by decide) neg e hf hN ht).mono ?_; rintro ex w1 ⟨rfl, hb⟩; replace hL := hL.go hb; clear hb
    have his := is_any neg e _ (hL.get (P := pT mv 20 N) (by repeat (first | exact List.mem_cons_self | apply List.mem_cons_of_mem))) (by decide) hf hN
    rw [ht] at his
    replace hN := Lib.hid hN
    replace ht := Lib.hid ht
    go_wp2_with fail
    refine his.mono ?_
    rintro ex w1 ⟨rfl, hb⟩
    replace hL := hL.go hb
    go_wp2
    go_ret
    exact ⟨by first | rfl | simp, hL.below⟩
set_option maxRecDepth 100000 in
set_option maxHeartbeats 4000000 in
theorem qtextParses_any (s : ByteArray) (e0 : Int) (w : World) (hT : Tab10 w) (hs : s.size ≤ maxLen) (_he64 : -9223372036854775808 ≤ e0 ∧ e0 ≤ 9223372036854775807) :
    Calls Tryz.prog 7 #[.string s, .int .i64 e0] w fun e w' => e = .returned (.bool true) ∧ Below w.heap.size w w' := by
  obtain ⟨l, hl⟩ : ∃ l, s.data.toList = l := ⟨_, rfl⟩
  obtain rfl : s = strL l := by rw [← hl]; exact strL_backQ s
  clear hl
  obtain ⟨z, hz⟩ : ∃ z, l.length = z := ⟨_, rfl⟩
  have hsz : (strL l).size = z := by rw [strL_size, hz]
  rw [hsz] at hs
  obtain ⟨m, hm⟩ : ∃ m : Nat, min (z : Int) 400 = m := ⟨min z 400, by omega⟩
  have hsl := fun w => slice_toQ l m (by omega) w
  obtain ⟨y, hy⟩ : ∃ y, (l.take m).length = y := ⟨_, rfl⟩
  have hyl : y ≤ 400 := by rw [← hy, List.length_take]; omega
  have hysz : (strL (l.take m)).size = y := by rw [strL_size, hy]
  obtain ⟨e, he⟩ : ∃ e, e0.tmod 1251 = e := ⟨_, rfl⟩
  have heb : -1251 < e ∧ e < 1251 := by have := tmod_bnd e0 1251 (by decide); omega
  have he64 : -9223372036854775808 ≤ e ∧ e ≤ 9223372036854775807 := by omega
  obtain ⟨f, ng, X, hq⟩ : ∃ f ng X, qP (l.take m) e = (f, ng, X) := ⟨_, _, _, rfl⟩
  have hpt := Lib.hid fun w => qparse_is (l.take m) (by omega) e he64 f ng X hq w
  have hrp := fun w => rqparse_any (l.take m) (by omega) e w
  rw [hq] at hrp
  replace hrp := Lib.hid hrp
  have hcmp0 := Lib.hid (cmpV_eq (rfl : (X : Int) = X))
  clear hq
  replace hz := Lib.hid hz
  replace hy := Lib.hid hy
  go_enter Tryz.func7, Tryz.ntmps7
  go_wp2_with fail
  refine (qshown_any w hT).mono ?_
  rintro ex w1 ⟨rfl, hb⟩
  have hL := (LiveP.start w).go hb
  clear hb
  go_wp2_with fail
  refine (hpt.out _).mono ?_
  rintro ex w2 ⟨xv, rfl, hv, hb⟩
  replace hL := (hL.go hb).put (pT_st _ _ _) hv
  clear hb hv
  go_wp2_with fail
  refine (hrp.out _).mono ?_
  rintro ex w3 ⟨yv, rfl, hv, hb⟩
  replace hL := (hL.go hb).put (pT_st _ _ _) hv
  clear hb hv
  go_wp2_with fail; refine (cmp_t (IsT.isN (hL.get (P := pT xv 6000 X) (by repeat (first | exact List.mem_cons_self | apply List.mem_cons_of_mem)))) (IsT.isN (hL.get (P := pT yv 6000 X) (by repeat (first | exact List.mem_cons_self | apply List.mem_cons_of_mem)))) (by decide) (by decide)).mono ?_; rintro ex w1 ⟨rfl, hb⟩; replace hL := hL.go hb; clear hb
  rw [hcmp0.out]
  go_wp2
  go_ret
  exact ⟨by first | rfl | simp, hL.below⟩
end Go.Proofs.YtncfbleeidjflaaGreatDoor
