/- What is proved: the statement QtextBack: whatever the input, the call tells true and the arguments read as they did. Condition: the package-level tables read as the program's text lays them, which the card ties. -/
/- The laws of chapter 16: 'few', a number of so many words; 'shown', what must be in any case. Condition: the table of powers reads as it is laid. -/
/- Plain: what the laws of chapter 16 ask of texts by powers of two. Conditions: none. -/
/- The law ScanFar, walked. Condition: the table of powers reads as it is laid. -/
/- The laws QtextArgs and QtextMoves, walked. Condition: the table of powers reads as it is laid. -/
/- The law QtextBack, walked. Condition: the table of powers reads as it is laid. -/
import Derived.Test.YthafemcaekimpaaGreatDoorQtE
import Derived.Test.YthafemcaekimpaaGreatDoorQtC
import Derived.Test.YthafemcaekimpaaGreatDoorScanF
import Derived.Test.YthafemcaekimpaaGreatDoorRowBase
namespace Go.Proofs.YthafemcaekimpaaGreatDoor
open Go.RowKit Go.Cal
theorem slice_nat (A : Option Addr) (n c : Nat) (k : Int) (w : World) (h0 : 0 ≤ k) (h1 : k ≤ c) : (Instr.slice 23 (.slice A n c) none (some (.int .i64 k)) none).run Tryz.prog w = .ok (.slice A k.toNat c) w := by
  have hu : Tryz.prog.underlying 23 = some (.slice (Tryz.prog.elem 23)) := by kernel_rfl
  have ha : ∀ a : Addr, a.add 0 = a := fun a => by cases a; unfold Addr.add; split <;> simp_all
  rw [run_slice_h _ _ _ _ _ hu .i64 k h0 h1]
  obtain ⟨i, hi, hz0, hz1, hz2⟩ := info_parts info_u64
  have he : Tryz.prog.elem 23 = 37 := by kernel_rfl
  have hs : (sizeOf (Tryz.prog.elem 23)).run Tryz.prog w = .ok 1 w := by
    rw [he]; simp [sizeOf, typeInfo, hi, hz1]
  rw [hs]
  simp [Result.andThen, sliced, ha]
set_option maxRecDepth 100000 in
set_option maxHeartbeats 1000000 in
theorem qfew_any {B w : World} {v : Value} (n : Nat) (hb : Below B.heap.size B w) (ha : ArgN B v) (hn : n ≤ 1048576) :
    Calls Tryz.prog 10 #[v, .int .i64 n] w fun e w' => ∃ u X, e = .returned u ∧ pT u n X w' ∧ Below w.heap.size w w' := by
  obtain ⟨A, c, xs, rfl, h1, h2, h3, h4, h5⟩ := ha
  have hr := (h1.below hb).more hb.size
  obtain ⟨m, hm⟩ : ∃ m, min xs.length n = m := ⟨_, rfl⟩
  have hmi : min (xs.length : Int) (n : Int) = (m : Int) := by omega
  have hmc : (m : Int) ≤ (c : Int) := by omega
  have hsl := fun w => slice_nat A xs.length c (m : Int) w (by omega) hmc
  simp only [Int.toNat_natCast] at hsl
  have hml : (xs.take m).length = m := by rw [List.length_take]; omega
  have hN : IsN w (.slice A m c) n (vl 18446744073709551616 (xs.take m)) := ⟨A, c, xs.take m, by rw [hml], hr.take m, by omega, by omega, dig_take h5 m, rfl⟩
  unfold maxLen at h4
  replace hm := Lib.hid hm
  replace hml := Lib.hid hml
  go_enter Tryz.func10, Tryz.ntmps10
  go_wp2_with fail
  refine (norm_t hN (by omega)).mono ?_
  rintro e w1 ⟨u, rfl, hv, hb'⟩
  go_wp2
  go_ret
  exact ⟨u, _, rfl, hv, hb'⟩
theorem qparse_any (l : List UInt8) (hl : l.length ≤ 1000000) (e : Int) (he64 : -9223372036854775808 ≤ e ∧ e ≤ 9223372036854775807) (w : World) : Calls Tryz.prog 13 #[.string (strL l), .int .i64 e] w (POut w (qP l e)) := by
  by_cases hf : qfar e
  · exact qparse_far l e he64 hf w
  · by_cases hok : (textS l).1 = true
    · exact qparse_yes l hl e he64 hf hok _ _ _ _ _ _ rfl w
    · exact qparse_no l hl e he64 hf (by simpa using hok) w
/-- The calls with what they tell given by its value. -/
theorem qtext_is {v : Value} {k N : Nat} (w : World) (t : List UInt8) (hT : Tab10 w) (h : IsN w v k N) (hk : k ≤ 64) (neg : Bool) (e : Int) (he : ¬ qfar e) (hN : N < qB) (ht : qS neg N e = t) :
    Calls Tryz.prog 11 #[.bool neg, v, .int .i64 e] w fun e' w' => e' = .returned (.tuple #[.string (strL t), .int .i64 0]) ∧ Below w.heap.size w w' := by
  subst ht
  exact qtext_ok w hT h hk neg e he hN
theorem qparse_is (l : List UInt8) (hl : l.length ≤ 1000000) (e : Int) (he64 : -9223372036854775808 ≤ e ∧ e ≤ 9223372036854775807) (f : Nat) (ng : Bool) (m : Nat) (h : qP l e = (f, ng, m)) (w : World) :
    Calls Tryz.prog 13 #[.string (strL l), .int .i64 e] w fun e' w' => ∃ v, e' = .returned (.tuple #[.bool ng, v, .int .i64 (f : Nat)]) ∧ IsT w' v 6000 m ∧ Below w.heap.size w w' := by
  have := qparse_any l hl e he64 w
  unfold POut at this
  rw [h] at this
  exact this
theorem strL_toL (l : List UInt8) : (strL l).toList = l := by unfold strL; rw [ByteArray.toList_mk]
theorem qlit (w : World) (x : Nat) (hx : x < 18446744073709551616) : IsN (w.alloc (.cells #[.int .u64 x] 37)) (.slice (some ⟨w.heap.size, 0, none⟩) 1 1) 1 x := by
  have h := IsN.lit w [x] #[.int .u64 x] rfl (fun y hy => by simp at hy; subst hy; exact hx)
  simpa [vl] using h
set_option maxRecDepth 100000 in
set_option maxHeartbeats 8000000 in
theorem qshown_any (w : World) (hT : Tab10 w) : Calls Tryz.prog 9 #[] w fun e w' => e = .returned (.bool true) ∧ Below w.heap.size w w' := by
  have hA : IsN (w.alloc (.cells #[.int .u64 5] 37)) (.slice (some ⟨w.heap.size, 0, none⟩) 1 1) 1 5 := qlit w 5 (by decide)
  have hb0 := (Below.refl w.heap.size w).alloc (Nat.le_refl _) (.cells #[.int .u64 5] 37)
  have hL := (LiveP.start w).go hb0
  clear hb0
  have t1 := strL_toL [45, 49, 46, 50, 53]
  have t2 := strL_toL [48]
  go_enter Tryz.func9, Tryz.ntmps9
  go_wp2_with fail
  refine (qtext_is _ [45, 49, 46, 50, 53] (hT.below hL.below) hA (by decide) true (-2) (by decide +kernel) (by decide +kernel) (by decide +kernel)).mono ?_
  rintro e w1 ⟨rfl, hb⟩
  replace hL := hL.go hb
  clear hb hA
  go_wp2_with fail
  refine (qtext_is _ [48] (hT.below hL.below) (.nil _) (by decide) true 3 (by decide +kernel) (by decide +kernel) (by decide +kernel)).mono ?_
  rintro e w2 ⟨rfl, hb⟩
  replace hL := hL.go hb
  clear hb
  have hA : IsN (w2.alloc (.cells #[.int .u64 1] 37)) (.slice (some ⟨w2.heap.size, 0, none⟩) 1 1) 1 1 := qlit w2 1 (by decide)
  replace hL := hL.go ((Below.refl _ _).alloc (Nat.le_refl _) (.cells #[.int .u64 1] 37))
  go_wp2_with fail
  refine (qtext_bad _ hA (by decide) false 1201 (by decide) (.inl (by decide +kernel))).mono ?_
  rintro e w3 ⟨rfl, hb⟩
  replace hL := hL.go hb
  clear hb hA
  go_wp2_with fail; refine (qparse_is [49, 46, 50, 53] (by decide) (-1) (by decide) 8 false 0 (by decide +kernel) _).mono ?_; rintro e w1 ⟨v1, rfl, hv, hb⟩; replace hL := (hL.go hb).put (pT_st _ _ _) hv; clear hb hv
  go_wp2_with fail; refine (qparse_is [45, 49, 50, 46, 53, 48, 101, 45, 49] (by decide) (-2) (by decide) 0 true 5 (by decide +kernel) _).mono ?_; rintro e w1 ⟨v2, rfl, hv, hb⟩; replace hL := (hL.go hb).put (pT_st _ _ _) hv; clear hb hv
  go_wp2_with fail; refine (qparse_is [105, 110, 102] (by decide) (0) (by decide) 2 false 0 (by decide +kernel) _).mono ?_; rintro e w1 ⟨v3, rfl, hv, hb⟩; replace hL := (hL.go hb).put (pT_st _ _ _) hv; clear hb hv
  go_wp2_with fail; refine (qparse_is [49, 101, 56, 48, 48] (by decide) (-1200) (by decide) 4 false 0 (by decide +kernel) _).mono ?_; rintro e w1 ⟨v4, rfl, hv, hb⟩; replace hL := (hL.go hb).put (pT_st _ _ _) hv; clear hb hv
  go_wp2_with fail; refine (qparse_is [49, 101, 49, 48, 48, 48] (by decide) (0) (by decide) 8 false 0 (by decide +kernel) _).mono ?_; rintro e w1 ⟨v5, rfl, hv, hb⟩; replace hL := (hL.go hb).put (pT_st _ _ _) hv; clear hb hv
  go_wp2_with fail
  refine (stext_t (hT.below hL.below) (IsT.isN (hL.get (P := pT v2 6000 5) (by repeat (first | exact List.mem_cons_self | apply List.mem_cons_of_mem)))) (by decide)).mono ?_
  rintro e w9 ⟨rfl, hb⟩
  replace hL := hL.go hb
  clear hb
  rw [show Lib.decDigits 5 = [53] from dec_is (by decide) (by decide) (by decide) (by decide)]
  go_wp2
  go_ret
  exact ⟨rfl, hL.below⟩
end Go.Proofs.YthafemcaekimpaaGreatDoor
namespace Go.Cal
open Go.Lib
/-- By a lesser power of two: as much larger. -/
theorem qP_down (neg : Bool) {N : Nat} {e e' : Int} (hN : N < qB) (he : ¬ qfar e) (he' : ¬ qfar e') (hle : e' ≤ e) (s Y : Nat) (hs : (e - e').toNat = s) (hY : N * 2 ^ s = Y) :
    qP (qS neg N e) e' = if Y < qB then (0, neg && decide (Y ≠ 0), Y) else (4, false, 0) := by
  subst hs; subst hY
  rw [qP_qS neg hN he he', if_pos hle]
/-- By a greater one: if it goes out. -/
theorem qP_up (neg : Bool) {N : Nat} {e : Int} (t : Nat) (hN : N < qB) (he : ¬ qfar e) (he' : ¬ qfar (e + t)) :
    qP (qS neg N e) (e + t) = if N % 2 ^ t = 0 then (0, neg && decide (N / 2 ^ t ≠ 0), N / 2 ^ t) else (8, false, 0) := by
  rw [qP_qS neg hN he he']
  have hlt : N / 2 ^ t < qB := Nat.lt_of_le_of_lt (Nat.div_le_self _ _) hN
  by_cases h0 : e + t ≤ e
  · have ht : t = 0 := by omega
    subst ht
    rw [if_pos h0]
    simp [hN, Nat.mod_one]
  · rw [if_neg h0, show (e + t - e).toNat = t by omega]
    unfold qdv
    by_cases h : N % 2 ^ t = 0
    · rw [if_pos h, if_pos h]
      simp only
      rw [if_pos hlt]
    · rw [if_neg h, if_neg h]
theorem qP_same (neg : Bool) {N : Nat} {e : Int} (hN : N < qB) (he : ¬ qfar e) : qP (qS neg N e) e = (0, neg && decide (N ≠ 0), N) := by
  rw [qP_down neg hN he he (Int.le_refl _) 0 N (by omega) (by simp), if_pos hN]
theorem qP_nought {e : Int} (he : ¬ qfar e) : qP [48] e = (0, false, 0) := by
  have h1 : (textS [48]).1 = true := by decide
  have h2 : textV 1125899906842624 [48] = ⟨1, false, 0, 0, 0, false⟩ := by rfl
  unfold qP
  rw [if_neg he, h1, h2, if_neg (by simp), if_neg (by simp)]
  simp only [qwh_zero]
  rw [if_pos qB_pos]
  rfl
theorem qP_far (l : List UInt8) {e : Int} (he : qfar e) : qP l e = (1, false, 0) := by unfold qP; rw [if_pos he]
/-- The same digits, with noughts at both ends, and an exponent. -/
theorem qtx_more (M f z : Nat) (neg : Bool) (C : Nat) :
    (textS ((if neg = true then [45] else []) ++ ((List.replicate z 48 ++ decDigits (M / 10 ^ f)) ++ 46 :: ((qfr M f ++ List.replicate z 48) ++ [101, 48])))).1 = true ∧
    textV C ((if neg = true then [45] else []) ++ ((List.replicate z 48 ++ decDigits (M / 10 ^ f)) ++ 46 :: ((qfr M f ++ List.replicate z 48) ++ [101, 48]))) = textV C ((if neg = true then [45] else []) ++ qtx M f) := by
  obtain ⟨q1, q2⟩ := qtx_item neg M f C
  have hW : ∀ c ∈ List.replicate z 48 ++ decDigits (M / 10 ^ f), isDig c = true := dig_app (dig_zero z) (dec_digs _)
  have hP : ∀ c ∈ qfr M f ++ List.replicate z 48, isDig c = true := dig_app (qfr_digs M f) (dig_zero z)
  have hE : ExpT [101, 48] := ⟨by decide, fun c s h => by injection h with h1 h2; exact .inl h1.symm⟩
  have hV : expV C [101, 48] = 0 := by
    have := expV_plain (C := C) (e := 101) (d := [48]) (by decide) (by decide)
    rw [this]
    show ((min 0 C : Nat) : Int) = 0
    omega
  obtain ⟨n1, n2, n3, n4⟩ := num_point hW hP (.inl (by simp [dec_ne])) hE
  have hi : itemV neg (List.replicate z 48 ++ decDigits (M / 10 ^ f) ++ (qfr M f ++ List.replicate z 48)) (0 - ((qfr M f ++ List.replicate z 48).length : Int)) = itemV neg (decDigits (M / 10 ^ f) ++ qfr M f) (-((qfr M f).length : Int)) := by
    have ha : List.replicate z 48 ++ decDigits (M / 10 ^ f) ++ (qfr M f ++ List.replicate z 48) = List.replicate z 48 ++ ((decDigits (M / 10 ^ f) ++ qfr M f) ++ List.replicate z 48) := by simp [List.append_assoc]
    obtain ⟨D, hD⟩ : ∃ D, decDigits (M / 10 ^ f) ++ qfr M f = D := ⟨_, rfl⟩
    rw [ha, hD]
    by_cases h0 : trL D = []
    · have e1 : trL (List.replicate z 48 ++ (D ++ List.replicate z 48)) = [] := by
        rw [trL_zeros, trL_all h0, List.replicate_append_replicate]
        have := trL_zeros (D.length + z) []
        rw [List.append_nil] at this
        rw [this]; rfl
      refine itemV_eq (by rw [e1, h0]) ?_
      rw [e1]
      intro h; exact absurd rfl h
    · have e1 : trL (List.replicate z 48 ++ (D ++ List.replicate z 48)) = trL D ++ List.replicate z 48 := by rw [trL_zeros, trL_append h0]
      refine itemV_eq (by rw [e1, trR_zeros]) fun _ => ?_
      rw [e1]
      simp only [List.length_append, List.length_replicate]
      omega
  cases neg
  · rw [if_neg (by simp)] at *
    rw [List.nil_append] at *
    have := text_pos n1 C
    rw [n2, n3, n4, hV, hi] at this
    exact ⟨this.1, this.2.trans q2.symm⟩
  · rw [if_pos rfl] at *
    have := text_neg n1 C
    rw [n2, n3, n4, hV, hi] at this
    exact ⟨this.1, this.2.trans q2.symm⟩
theorem qP_text {l1 l2 : List UInt8} (h1 : (textS l1).1 = true) (h2 : (textS l2).1 = true) (h : textV 1125899906842624 l1 = textV 1125899906842624 l2) (e : Int) : qP l1 e = qP l2 e := by
  unfold qP
  rw [h1, h2, h]
theorem qP_forms (neg : Bool) {N : Nat} {e : Int} (z : Nat) (hN : N < qB) (he : ¬ qfar e) :
    qP (qsg neg N ++ ((List.replicate z 48 ++ decDigits (qM N e / 10 ^ qF e)) ++ 46 :: ((qfr (qM N e) (qF e) ++ List.replicate z 48) ++ [101, 48]))) e = (0, neg && decide (N ≠ 0), N) := by
  rw [← qP_same neg hN he]
  unfold qS
  rw [qsg_if]
  obtain ⟨a1, a2⟩ := qtx_more (qM N e) (qF e) z (neg && decide (N ≠ 0)) 1125899906842624
  exact qP_text a1 (qtx_item _ _ _ 0).1 a2 e
end Go.Cal
namespace Go.Proofs.YthafemcaekimpaaGreatDoor
open Go.RowKit Go.Cal
/-- So many nines are worth much. -/
theorem nines (n : Nat) : numV (List.replicate n 57) + 1 = 10 ^ n := by
  induction n with
  | zero => rfl
  | succ n ih =>
    rw [List.replicate_succ', numV_snoc, Nat.pow_succ]
    have : (57 : UInt8).toNat - 48 = 9 := rfl
    rw [this]
    omega
theorem nines_dig (n : Nat) : ∀ c ∈ List.replicate n (57 : UInt8), isDig c = true := fun c hc => by
  rw [List.eq_of_mem_replicate hc]; decide
theorem nines_far (n : Nat) (h : 4 ≤ n) : 9999 ≤ min (numV (List.replicate n 57)) 1125899906842624 := by
  have h1 := nines n
  have h2 : 10 ^ 4 ≤ 10 ^ n := Nat.pow_le_pow_right (by omega) h
  omega
/-- The exponent's text. -/
def farE (less : Bool) (n : Nat) : List UInt8 := (if less then [101, 45] else [101]) ++ List.replicate n 57
theorem farE_ok (less : Bool) (n : Nat) (h : 4 ≤ n) : ExpT (farE less n) ∧ (less = false → 9999 ≤ expV 1125899906842624 (farE less n)) ∧ (less = true → expV 1125899906842624 (farE less n) ≤ -9999) := by
  have hd := nines_dig n
  have h0 : List.replicate n (57 : UInt8) ≠ [] := by
    intro e
    have := congrArg List.length e
    simp at this; omega
  have hf := nines_far n h
  cases less
  · refine ⟨ExpT.plain (.inl rfl) hd h0, fun _ => ?_, fun e => by cases e⟩
    show 9999 ≤ expV 1125899906842624 (101 :: List.replicate n 57)
    rw [expV_plain hd h0]
    omega
  · refine ⟨ExpT.sign (.inl rfl) (.inr rfl) hd h0, (fun e => by cases e), fun _ => ?_⟩
    show expV 1125899906842624 (101 :: 45 :: List.replicate n 57) ≤ -9999
    rw [expV_less hd]
    omega
theorem far_a (less : Bool) (n : Nat) (h : 4 ≤ n) (c : UInt8) (hc : isDig c = true) (hc0 : c ≠ 48) : itemOf (c :: farE less n) = ⟨1, false, 0, 0, if less then -1 else 1, false⟩ := by
  obtain ⟨he, h1, h2⟩ := farE_ok less n h
  obtain ⟨n1, n2, n3, n4⟩ := num_plain (d := [c]) (r := farE less n) (fun x hx => by simp at hx; subst hx; exact hc) (by simp) he
  obtain ⟨t1, t2⟩ := text_pos (t := c :: farE less n) n1 1125899906842624
  unfold itemOf
  rw [if_pos t1, t2]
  have n2' : numD (c :: farE less n) = [c] := n2
  have n3' : numB (c :: farE less n) = 0 := n3
  have n4' : numR (c :: farE less n) = farE less n := n4
  rw [n2', n3', n4']
  have ha : trL [c] = [c] := List.dropWhile_cons_of_neg (by simpa using hc0)
  have hb : trR [c] = [c] := trR_self (by simpa using hc0)
  unfold itemV
  simp only [ha, hb]
  rw [if_neg (by simp)]
  cases less
  · have := h1 rfl
    rw [if_pos (by simp; omega)]; rfl
  · have := h2 rfl
    rw [if_neg (by simp; omega), if_pos (by simp; omega)]; rfl
theorem far_b (less : Bool) (n : Nat) (h : 4 ≤ n) : itemOf ([45, 48, 46, 48, 48] ++ farE less n) = ⟨1, true, 0, 0, 0, false⟩ := by
  obtain ⟨he, _, _⟩ := farE_ok less n h
  obtain ⟨n1, n2, n3, n4⟩ := num_point (d := [48]) (d2 := [48, 48]) (r := farE less n) (by decide) (by decide) (.inl (by simp)) he
  obtain ⟨t1, t2⟩ := text_neg (t := [48] ++ 46 :: ([48, 48] ++ farE less n)) n1 1125899906842624
  have e : [45, 48, 46, 48, 48] ++ farE less n = 45 :: ([48] ++ 46 :: ([48, 48] ++ farE less n)) := rfl
  unfold itemOf
  rw [e, if_pos t1, t2, n2]
  rfl
/-- The low bits of an int. -/
theorem i64_and16 (n : Int) : bits .and .i64 n 65535 = n % 65536 := by
  have h127 : (BitVec.ofInt 64 65535).toNat = 2 ^ 16 - 1 := by decide
  have key : (BitVec.ofInt 64 n &&& BitVec.ofInt 64 65535).toNat = (n % ((2 ^ 64 : Nat) : Int)).toNat % 2 ^ 16 := by
    rw [BitVec.toNat_and, BitVec.toNat_ofInt, h127, Nat.and_two_pow_sub_one_eq_mod]
  show IntKind.i64.wrap ((BitVec.ofInt 64 n &&& BitVec.ofInt 64 65535).toNat : Nat) = n % 65536
  rw [key, IntKind.wrap_i64]
  omega
theorem and_low (n : Int) : ∃ m : Nat, bits .and .i64 n 65535 = (m : Int) ∧ m ≤ 65535 := ⟨(n % 65536).toNat, by rw [i64_and16]; omega, by omega⟩
theorem farE_len (less : Bool) (n : Nat) : (farE less n).length ≤ n + 2 := by unfold farE; cases less <;> simp <;> omega
theorem farE_snoc (less : Bool) (n : Nat) : strL (farE less n) ++ ⟨#[57]⟩ = strL (farE less (n + 1)) := by
  unfold farE strL
  apply ByteArray.ext
  apply Array.toList_inj.1
  simp [List.replicate_succ']
theorem conv_one (W : World) (g : Nat) (c : UInt8) (hc : W.cell? ⟨g, 0, none⟩ = some (.int .u8 (c.toNat : Int))) : (convert 57 9 (.slice (some ⟨g, 0, none⟩) 1 1)).run Tryz.prog W = .ok (.string (strL [c])) W :=
  run_convert_bytes_back (P := Tryz.prog) W 57 9 5 ⟨g, 0, none⟩ 1 [c] sunder_bytes sunder_byte sunder_str (fun j hj => by
    have : j = 0 := by simpa using hj
    subst this
    rw [Lib.add_plain]
    exact hc)
theorem pT_zero {A : Option Addr} {n c k : Nat} {w : World} (h : pT (.slice A n c) k 0 w) : n = 0 := by
  obtain ⟨A', c', zs, he, _, _, _, _, hn⟩ := h
  injection he with e1 e2 e3
  rw [e2]
  exact Nat.le_zero.1 (hn.length_le (by omega))
theorem strL_app (a b : List UInt8) : strL a ++ strL b = strL (a ++ b) := by
  unfold strL
  apply ByteArray.ext
  simp
end Go.Proofs.YthafemcaekimpaaGreatDoor
namespace Go.Proofs.YthafemcaekimpaaGreatDoor
open Go.RowKit Go.Cal
theorem tmod_bnd (e n : Int) (hn : 0 < n) : -n < e.tmod n ∧ e.tmod n < n := by
  rcases Int.le_total 0 e with h | h
  · rw [Int.tmod_eq_emod_of_nonneg h]
    have := Int.emod_nonneg e (by omega : n ≠ 0)
    have := Int.emod_lt_of_pos e hn
    omega
  · have h2 : e.tmod n = -((-e).tmod n) := by rw [Int.neg_tmod, Int.neg_neg]
    rw [h2, Int.tmod_eq_emod_of_nonneg (by omega)]
    have := Int.emod_nonneg (-e) (by omega : n ≠ 0)
    have := Int.emod_lt_of_pos (-e) hn
    omega
theorem low_tmod (t : Int) (n : Int) (hn : 0 < n) : ∃ u : Nat, (bits BinOp.and .i64 t 65535).tmod n = (u : Int) ∧ (u : Int) < n := by
  rw [i64_and16, Int.tmod_eq_emod_of_nonneg (by omega)]
  have h1 := Int.emod_nonneg (t % 65536) (by omega : n ≠ 0)
  have h2 := Int.emod_lt_of_pos (t % 65536) hn
  exact ⟨(t % 65536 % n).toNat, by omega, by omega⟩
theorem qB_12 : 18446744073709551616 ^ 12 ≤ qB := by unfold qB; decide +kernel
theorem qB_12_300 : 18446744073709551616 ^ 12 * qPow 2 300 ≤ qB := by unfold qB; decide +kernel
theorem str_some {l t : List UInt8} (h : l = t) (h0 : l ≠ []) : (strL t).toList.isEmpty = false := by
  subst h
  unfold strL
  rw [ByteArray.toList_mk]
  simpa using h0
theorem str_size {t : List UInt8} (h0 : t ≠ []) : ((strL t).size == 0) = false := by
  rw [strL_size]
  have := List.length_pos_iff.2 h0
  simp
  exact h0
set_option maxRecDepth 100000 in
set_option maxHeartbeats 4000000 in
theorem qtextArgs_any (neg : Bool) (v : Value) (e : Int) (w : World) (hT : Tab10 w) (h0 : ArgN w v) (he64 : -9223372036854775808 ≤ e ∧ e ≤ 9223372036854775807) :
    Calls Tryz.prog 6 #[.bool neg, v, .int .i64 e] w fun e w' => e = .returned (.bool true) ∧ Below w.heap.size w w' := by
  go_enter Tryz.func6, Tryz.ntmps6
  go_wp2_with fail; refine (qshown_any w hT).mono ?_; rintro ex w1 ⟨rfl, hb⟩; have hL := (LiveP.start w).go hb; clear hb; go_wp2_with fail; refine (qfew_any 34 hL.below h0 (by decide)).mono ?_; rintro ex w1 ⟨mv, N, rfl, hv, hb⟩; replace hL := (hL.go hb).put (pT_st _ _ _) hv; clear hb hv
  by_cases hf : qfar e
  · go_wp2_with fail; refine (qtext_bad _ (IsT.isN (hL.get (P := pT mv 34 N) (by repeat (first | exact List.mem_cons_self | apply List.mem_cons_of_mem)))) (by decide) neg e he64 (.inl hf)).mono ?_; rintro ex w1 ⟨rfl, hb⟩; replace hL := hL.go hb; clear hb
    go_wp2_with fail; refine (qparse_is [48] (by decide) e he64 1 false 0 (qP_far _ hf) _).mono ?_; rintro ex w1 ⟨pv, rfl, hv, hb⟩; replace hL := (hL.go hb).put (pT_st _ _ _) hv; clear hb hv
    rcases id hf with he | he
    · go_wp2
      go_ret
      exact ⟨rfl, hL.below⟩
    · have he' : ¬ e < -1200 := by omega
      go_wp2
      go_ret
      exact ⟨by simp, hL.below⟩
  · have he : -1200 ≤ e ∧ e ≤ 1200 := by unfold qfar at hf; omega
    have he1 : ¬ e < -1200 := by omega
    have he2 : ¬ 1200 < e := by omega
    by_cases hN : N < qB
    · obtain ⟨t, ht⟩ : ∃ t, qS neg N e = t := ⟨_, rfl⟩
      have hE := str_some ht (qS_ne neg N e)
      have hNb : ¬ (2048 : Int) < (blen N : Int) := by have := blen_qB.2 hN; omega
      go_wp2_with fail; refine (qtext_is _ t (hT.below hL.below) (IsT.isN (hL.get (P := pT mv 34 N) (by repeat (first | exact List.mem_cons_self | apply List.mem_cons_of_mem)))) (by decide) neg e hf hN ht).mono ?_; rintro ex w1 ⟨rfl, hb⟩; replace hL := hL.go hb; clear hb
      go_wp2_with fail; refine (qparse_is [48] (by decide) e he64 0 false 0 (qP_nought hf) _).mono ?_; rintro ex w1 ⟨pv, rfl, hv, hb⟩; replace hL := (hL.go hb).put (pT_st _ _ _) hv; clear hb hv
      go_wp2_with fail; refine (sbits_t (IsT.isN (hL.get (P := pT mv 34 N) (by repeat (first | exact List.mem_cons_self | apply List.mem_cons_of_mem)))) (by decide)).mono ?_; rintro ex w' ⟨rfl, rfl⟩
      go_wp2
      go_ret
      exact ⟨by simp [he1, he2, hNb], hL.below⟩
    · have hNb : (2048 : Int) < (blen N : Int) := by have h9 : ¬ blen N ≤ 2048 := fun h => hN (blen_qB.1 h); omega
      go_wp2_with fail; refine (qtext_bad _ (IsT.isN (hL.get (P := pT mv 34 N) (by repeat (first | exact List.mem_cons_self | apply List.mem_cons_of_mem)))) (by decide) neg e he64 (.inr (Nat.not_lt.1 hN))).mono ?_; rintro ex w1 ⟨rfl, hb⟩; replace hL := hL.go hb; clear hb
      go_wp2_with fail; refine (qparse_is [48] (by decide) e he64 0 false 0 (qP_nought hf) _).mono ?_; rintro ex w1 ⟨pv, rfl, hv, hb⟩; replace hL := (hL.go hb).put (pT_st _ _ _) hv; clear hb hv
      go_wp2_with fail; refine (sbits_t (IsT.isN (hL.get (P := pT mv 34 N) (by repeat (first | exact List.mem_cons_self | apply List.mem_cons_of_mem)))) (by decide)).mono ?_; rintro ex w' ⟨rfl, rfl⟩
      go_wp2
      go_ret
      exact ⟨by simp [he1, he2], hL.below⟩
set_option maxRecDepth 100000 in
set_option maxHeartbeats 4000000 in
theorem qtextMoves_any (neg : Bool) (v : Value) (e t : Int) (w : World) (hT : Tab10 w) (h0 : ArgN w v) (_he64 : -9223372036854775808 ≤ e ∧ e ≤ 9223372036854775807) (_ht64 : -9223372036854775808 ≤ t ∧ t ≤ 9223372036854775807) :
    Calls Tryz.prog 7 #[.bool neg, v, .int .i64 e, .int .i64 t] w fun e w' => e = .returned (.bool true) ∧ Below w.heap.size w w' := by
  obtain ⟨u, hu, hub'⟩ := low_tmod t 301 (by decide)
  have hub : u ≤ 300 := by omega
  obtain ⟨x, hx⟩ : ∃ x, e.tmod 901 = x := ⟨_, rfl⟩
  have hxb : -900 ≤ x ∧ x ≤ 900 := by have := tmod_bnd e 901 (by decide); omega
  have hf1 : ¬ qfar x := by unfold qfar; omega
  have hf2 : ¬ qfar (x - u) := by unfold qfar; omega
  go_enter Tryz.func7, Tryz.ntmps7
  go_wp2_with fail; refine (qshown_any w hT).mono ?_; rintro ex w1 ⟨rfl, hb⟩; have hL := (LiveP.start w).go hb; clear hb; go_wp2_with fail; refine (qfew_any 12 hL.below h0 (by decide)).mono ?_; rintro ex w1 ⟨mv, N, rfl, hv, hb⟩; replace hL := (hL.go hb).put (pT_st _ _ _) hv; clear hb hv
  have hN : N < 18446744073709551616 ^ 12 := (IsT.isN (hL.get (P := pT mv 12 N) (by repeat (first | exact List.mem_cons_self | apply List.mem_cons_of_mem)))).lt
  have hN1 : N < qB := Nat.lt_of_lt_of_le hN qB_12
  obtain ⟨Y, hY⟩ : ∃ Y, N * 2 ^ u = Y := ⟨_, rfl⟩
  have hY1 : Y < qB := by
    rw [← hY]
    exact Nat.lt_of_lt_of_le (Nat.mul_lt_mul_of_lt_of_le hN (qPow_le (by decide) hub) (by decide +kernel)) qB_12_300
  have hYb : Y < 18446744073709551616 ^ 32 := Nat.lt_of_lt_of_le hY1 (by unfold qB; decide +kernel)
  obtain ⟨T, hTt⟩ : ∃ T, qS neg N x = T := ⟨_, rfl⟩
  have hTt2 : qS neg Y (x - u) = T := by rw [← hY, qS_moves]; exact hTt
  have hY' : N * 2 ^ (min (max (u : Int) 0) 131072).toNat = Y := by rw [← hY]; congr 2; omega
  replace hY := Lib.hid hY
  replace hN := Lib.hid hN
  replace hN1 := Lib.hid hN1
  replace hY1 := Lib.hid hY1
  replace hYb := Lib.hid hYb
  replace hY' := Lib.hid hY'
  replace hTt := Lib.hid hTt
  replace hTt2 := Lib.hid hTt2
  go_wp2_with fail
  refine (qtext_is _ T (hT.below hL.below) (IsT.isN (hL.get (P := pT mv 12 N) (by repeat (first | exact List.mem_cons_self | apply List.mem_cons_of_mem)))) (by decide) neg x hf1 hN1.out hTt.out).mono ?_
  rintro ex w1 ⟨rfl, hb⟩
  replace hL := hL.go hb
  clear hb
  go_wp2_with fail; refine (shl_t u 32 Y (IsT.isN (hL.get (P := pT mv 12 N) (by repeat (first | exact List.mem_cons_self | apply List.mem_cons_of_mem)))) (by decide) hY'.out hYb.out).mono ?_; rintro ex w1 ⟨yv, rfl, hv, hb⟩; replace hL := (hL.go hb).put (pT_st _ _ _) hv; clear hb hv
  go_wp2_with fail; refine (qtext_is _ T (hT.below hL.below) (IsT.isN (hL.get (P := pT yv 32 Y) (by repeat (first | exact List.mem_cons_self | apply List.mem_cons_of_mem)))) (by decide) neg (x - u) hf2 hY1.out hTt2.out).mono ?_; rintro ex w1 ⟨rfl, hb⟩; replace hL := hL.go hb; clear hb
  go_wp2
  go_ret
  exact ⟨by simp, hL.below⟩
end Go.Proofs.YthafemcaekimpaaGreatDoor
namespace Go.Proofs.YthafemcaekimpaaGreatDoor
open Go.RowKit Go.Cal
theorem qB_34 : qB * qPow 2 100 ≤ 18446744073709551616 ^ 34 := by unfold qB; decide +kernel
theorem qB_32 : 18446744073709551616 ^ 32 ≤ qB := by unfold qB; decide +kernel
theorem IsT.shape {w : World} {v : Value} {k N : Nat} (h : IsT w v k N) : ∃ A c n, v = .slice A n c ∧ (0 < n ↔ 0 < N) := by
  obtain ⟨A, c, zs, h1, h2, h3, h4, h5, h6⟩ := h
  refine ⟨A, c, zs.length, h1, ?_⟩
  constructor
  · intro hl
    rcases Nat.eq_zero_or_pos N with h0 | h0
    · subst h0
      have := h6.length_le (k := 0) (by decide)
      omega
    · exact h0
  · intro hN
    rcases Nat.eq_zero_or_pos zs.length with h0 | h0
    · have hz := List.eq_nil_of_length_eq_zero h0
      have := h6.val
      rw [hz] at this
      simp [vl] at this
      omega
    · exact h0
theorem qS_len (neg : Bool) {N : Nat} {e : Int} (hN : N < qB) (he : ¬ qfar e) : (qS neg N e).length ≤ 1000000 := by
  have h1 : (qfr (qM N e) (qF e)).length ≤ qF e := by
    have := (trR_prefix (padd (qF e) (qM N e % 10 ^ qF e))).length_le
    rwa [padd_length] at this
  have h2 : (Lib.decDigits (qM N e / 10 ^ qF e)).length ≤ 2000 := by
    rcases Nat.eq_zero_or_pos N with rfl | h0
    · rw [qM_zero, Nat.zero_div]
      have := dec_len_bound (u := 0) (k := 200) (Nat.two_pow_pos _) (by decide)
      omega
    · have := (qM_bnd hN he h0).1
      omega
  have h3 : qF e ≤ 1200 := by unfold qF; unfold qfar at he; omega
  have h4 : (qsg neg N).length ≤ 1 := by unfold qsg; split <;> simp
  unfold qS qtx
  rw [List.length_append, List.length_append]
  split
  · rw [List.length_nil]; omega
  · rw [List.length_cons]; omega
set_option maxRecDepth 100000 in
set_option maxHeartbeats 4000000 in
theorem qtextBack_any (neg : Bool) (v : Value) (e0 less0 : Int) (w : World) (hT : Tab10 w) (h0 : ArgN w v) (_he64 : -9223372036854775808 ≤ e0 ∧ e0 ≤ 9223372036854775807) (_hl64 : -9223372036854775808 ≤ less0 ∧ less0 ≤ 9223372036854775807) :
    Calls Tryz.prog 5 #[.bool neg, v, .int .i64 e0, .int .i64 less0] w fun e w' => e = .returned (.bool true) ∧ Below w.heap.size w w' := by
  go_enter Tryz.func5, Tryz.ntmps5
  go_wp2_with fail; refine (qshown_any w hT).mono ?_; rintro ex w1 ⟨rfl, hb⟩; have hL := (LiveP.start w).go hb; clear hb; go_wp2_with fail; refine (qfew_any 32 hL.below h0 (by decide)).mono ?_; rintro ex w1 ⟨mv, N, rfl, hv, hb⟩; replace hL := (hL.go hb).put (pT_st _ _ _) hv; clear hb hv
  have hN : N < qB := Nat.lt_of_lt_of_le (IsT.isN (hL.get (P := pT mv 32 N) (by repeat (first | exact List.mem_cons_self | apply List.mem_cons_of_mem)))).lt qB_32
  obtain ⟨e, he⟩ : ∃ e, e0.tmod 1201 = e := ⟨_, rfl⟩
  have heb : -1200 ≤ e ∧ e ≤ 1200 := by have := tmod_bnd e0 1201 (by decide); omega
  have hnf : ¬ qfar e := by unfold qfar; omega
  obtain ⟨u, hu, hub⟩ := low_tmod less0 101 (by decide)
  obtain ⟨T, hTt⟩ : ∃ T, qS neg N e = T := ⟨_, rfl⟩
  have hTl : T.length ≤ 1000000 := by rw [← hTt]; exact qS_len neg hN hnf
  have hps : qP T e = (0, neg && decide (N ≠ 0), N) := by rw [← hTt]; exact qP_same neg hN hnf
  obtain ⟨A, c, n, hmv, hn⟩ := (hL.get (P := pT mv 32 N) (by repeat (first | exact List.mem_cons_self | apply List.mem_cons_of_mem))).shape
  subst hmv
  have he64' : -9223372036854775808 ≤ e ∧ e ≤ 9223372036854775807 := by omega
  obtain ⟨E1, hE1⟩ : ∃ E1, max (e - (u : Int)) (-1200) = E1 := ⟨_, rfl⟩
  have hE1b : -1200 ≤ E1 ∧ E1 ≤ e ∧ e - E1 ≤ 100 := by omega
  obtain ⟨s, hs⟩ : ∃ s : Nat, e - E1 = (s : Int) := ⟨(e - E1).toNat, by omega⟩
  have hs1 : s ≤ 100 := by omega
  have hnf1 : ¬ qfar E1 := by unfold qfar; omega
  have hE64 : -9223372036854775808 ≤ E1 ∧ E1 ≤ 9223372036854775807 := by omega
  obtain ⟨Y, hY⟩ : ∃ Y, N * 2 ^ s = Y := ⟨_, rfl⟩
  have hYb : Y < 18446744073709551616 ^ 34 := by rw [← hY]; exact Nat.lt_of_lt_of_le (Nat.mul_lt_mul_of_lt_of_le hN (qPow_le (b := 2) (by decide) hs1) (by decide +kernel)) qB_34
  have hY' : N * 2 ^ (min (max (s : Int) 0) 131072).toNat = Y := by rw [← hY]; congr 2; omega
  have hpd := qP_down neg hN hnf hnf1 hE1b.2.1 s Y (by omega) hY
  rw [hTt] at hpd
  obtain ⟨W, hW⟩ : ∃ W, N / 2 ^ u = W := ⟨_, rfl⟩
  have hW' : N / 2 ^ (min (max (u : Int) 0) 131072).toNat = W := by rw [← hW]; congr 2; omega
  obtain ⟨V, hV⟩ : ∃ V, W * 2 ^ u = V := ⟨_, rfl⟩
  have hV' : W * 2 ^ (min (max (u : Int) 0) 131072).toNat = V := by rw [← hV]; congr 2; omega
  have hVN : V ≤ N := by rw [← hV, ← hW]; exact Nat.div_mul_le_self _ _
  have hVb : V < 18446744073709551616 ^ 32 := Nat.lt_of_le_of_lt hVN (IsT.isN (hL.get (P := pT (.slice A n c) 32 N) (by repeat (first | exact List.mem_cons_self | apply List.mem_cons_of_mem)))).lt
  have hVm : N % 2 ^ u = 0 ↔ V = N := by
    have := Nat.div_add_mod N (2 ^ u)
    rw [hW, Nat.mul_comm, hV] at this
    omega
  have hpu : ¬ 1200 < e + (u : Int) → qP T (e + u) = if V = N then (0, neg && decide (W ≠ 0), W) else (8, false, 0) := fun h => by
    have h1 := qP_up neg u hN hnf (by unfold qfar; omega)
    rw [hTt, hW] at h1
    rw [h1]
    by_cases h2 : V = N
    · rw [if_pos h2, if_pos (hVm.2 h2)]
    · rw [if_neg h2, if_neg fun h3 => h2 (hVm.1 h3)]
  obtain ⟨sgY, hsgY⟩ : ∃ b, (neg && decide (Y ≠ 0)) = b := ⟨_, rfl⟩
  obtain ⟨sgW, hsgW⟩ : ∃ b, (neg && decide (W ≠ 0)) = b := ⟨_, rfl⟩
  rw [hsgY] at hpd
  rw [hsgW] at hpu
  clear hsgY hsgW
  have hsg : (neg = false) ∨ (neg = true ∧ N = 0 ∧ ¬ (0 : Int) < (n : Int)) ∨ (neg = true ∧ N ≠ 0 ∧ (0 : Int) < (n : Int)) := by
    cases neg
    · exact .inl rfl
    · by_cases h0 : N = 0
      · exact .inr (.inl ⟨rfl, h0, by omega⟩)
      · exact .inr (.inr ⟨rfl, h0, by omega⟩)
  obtain ⟨sg, hsgn⟩ : ∃ sg, (neg && decide (N ≠ 0)) = sg := ⟨_, rfl⟩
  rw [hsgn] at hps
  have hsg' : (neg = false ∧ sg = false) ∨ (neg = true ∧ sg = false ∧ ¬ (0 : Int) < (n : Int)) ∨ (neg = true ∧ sg = true ∧ (0 : Int) < (n : Int)) := by
    rcases hsg with rfl | ⟨rfl, h1, h2⟩ | ⟨rfl, h1, h2⟩
    · exact .inl ⟨rfl, by rw [← hsgn]; rfl⟩
    · exact .inr (.inl ⟨rfl, by rw [← hsgn]; simp [h1], h2⟩)
    · exact .inr (.inr ⟨rfl, by rw [← hsgn]; simp [h1], h2⟩)
  clear hsg hsgn hn hVm
  have hcmp0 : ∀ X : Nat, cmpV (X : Int) (X : Int) = 0 := fun X => cmpV_eq rfl
  replace hTt := Lib.hid hTt
  replace hps := Lib.hid hps
  replace hpd := Lib.hid hpd
  replace hpu := Lib.hid hpu
  replace hN := Lib.hid hN
  replace hY := Lib.hid hY
  replace hYb := Lib.hid hYb
  replace hY' := Lib.hid hY'
  replace hW := Lib.hid hW
  replace hW' := Lib.hid hW'
  replace hV := Lib.hid hV
  replace hV' := Lib.hid hV'
  replace hVb := Lib.hid hVb
  replace hcmp0 := Lib.hid hcmp0
  go_wp2_with fail; refine (qtext_is _ T (hT.below hL.below) (IsT.isN (hL.get (P := pT (.slice A n c) 32 N) (by repeat (first | exact List.mem_cons_self | apply List.mem_cons_of_mem)))) (by decide) neg e hnf hN.out hTt.out).mono ?_; rintro ex w1 ⟨rfl, hb⟩; replace hL := hL.go hb; clear hb
  go_wp2_with fail; refine (qparse_is T hTl e he64' 0 sg N hps.out _).mono ?_; rintro ex w1 ⟨nv, rfl, hv, hb⟩; replace hL := (hL.go hb).put (pT_st _ _ _) hv; clear hb hv
  rcases hsg' with ⟨rfl, rfl⟩ | ⟨rfl, rfl, hn0⟩ | ⟨rfl, rfl, hn0⟩
  ·
    go_wp2_with fail; refine (cmp_t (IsT.isN (hL.get (P := pT nv 6000 N) (by repeat (first | exact List.mem_cons_self | apply List.mem_cons_of_mem)))) (IsT.isN (hL.get (P := pT (.slice A n c) 32 N) (by repeat (first | exact List.mem_cons_self | apply List.mem_cons_of_mem)))) (by decide) (by decide)).mono ?_; rintro ex w1 ⟨rfl, hb⟩; replace hL := hL.go hb; clear hb
    rw [hcmp0.out]
    by_cases hYq : Y < qB
    · have hYi : ¬ (2048 : Int) < ((blen Y : Nat) : Int) := by have := blen_qB.2 hYq; omega
      have hp1 := hpd.out
      rw [if_pos hYq] at hp1
      replace hp1 := Lib.hid hp1
      go_wp2_with fail; refine (qparse_is T hTl E1 hE64 0 sgY Y hp1.out _).mono ?_; rintro ex w1 ⟨xv, rfl, hv, hb⟩; replace hL := (hL.go hb).put (pT_st _ _ _) hv; clear hb hv
      go_wp2_with fail; refine (shl_t s 34 Y (IsT.isN (hL.get (P := pT (.slice A n c) 32 N) (by repeat (first | exact List.mem_cons_self | apply List.mem_cons_of_mem)))) (by decide) hY'.out hYb.out).mono ?_; rintro ex w1 ⟨yv, rfl, hv, hb⟩; replace hL := (hL.go hb).put (pT_st _ _ _) hv; clear hb hv
      go_wp2_with fail; refine (sbits_t (IsT.isN (hL.get (P := pT yv 34 Y) (by repeat (first | exact List.mem_cons_self | apply List.mem_cons_of_mem)))) (by decide)).mono ?_; rintro ex w' ⟨rfl, rfl⟩
      go_wp2_with fail; refine (cmp_t (IsT.isN (hL.get (P := pT xv 6000 Y) (by repeat (first | exact List.mem_cons_self | apply List.mem_cons_of_mem)))) (IsT.isN (hL.get (P := pT yv 34 Y) (by repeat (first | exact List.mem_cons_self | apply List.mem_cons_of_mem)))) (by decide) (by decide)).mono ?_; rintro ex w1 ⟨rfl, hb⟩; replace hL := hL.go hb; clear hb
      rw [hcmp0.out]
      by_cases hfu : (1200 : Int) < e + (u : Int)
      · go_wp2_with fail; refine (cmp_t (IsT.isN (hL.get (P := pT xv 6000 Y) (by repeat (first | exact List.mem_cons_self | apply List.mem_cons_of_mem)))) (IsT.isN (hL.get (P := pT yv 34 Y) (by repeat (first | exact List.mem_cons_self | apply List.mem_cons_of_mem)))) (by decide) (by decide)).mono ?_; rintro ex w1 ⟨rfl, hb⟩; replace hL := hL.go hb; clear hb
        rw [hcmp0.out]
        go_wp2
        go_ret
        exact ⟨by simp, hL.below⟩
      · have hp2 := hpu.out (by omega)
        have hU64 : -9223372036854775808 ≤ e + (u : Int) ∧ e + (u : Int) ≤ 9223372036854775807 := by omega
        by_cases hVn : V = N
        · rw [if_pos hVn] at hp2
          replace hp2 := Lib.hid hp2
          replace hVn := Lib.hid hVn
          go_wp2_with fail; refine (qparse_is T hTl (e + u) hU64 0 sgW W hp2.out _).mono ?_; rintro ex w1 ⟨zv, rfl, hv, hb⟩; replace hL := (hL.go hb).put (pT_st _ _ _) hv; clear hb hv
          go_wp2_with fail; refine (shr_t u W (IsT.isN (hL.get (P := pT (.slice A n c) 32 N) (by repeat (first | exact List.mem_cons_self | apply List.mem_cons_of_mem)))) (by decide) hW'.out).mono ?_; rintro ex w1 ⟨wv, rfl, hv, hb⟩; replace hL := (hL.go hb).put (pT_st _ _ _) hv; clear hb hv
          go_wp2_with fail; refine (shl_t u 32 V (IsT.isN (hL.get (P := pT wv 32 W) (by repeat (first | exact List.mem_cons_self | apply List.mem_cons_of_mem)))) (by decide) hV'.out hVb.out).mono ?_; rintro ex w1 ⟨vv, rfl, hv, hb⟩; replace hL := (hL.go hb).put (pT_st _ _ _) hv; clear hb hv
          go_wp2_with fail; refine (cmp_t (IsT.isN (hL.get (P := pT vv 32 V) (by repeat (first | exact List.mem_cons_self | apply List.mem_cons_of_mem)))) (IsT.isN (hL.get (P := pT (.slice A n c) 32 N) (by repeat (first | exact List.mem_cons_self | apply List.mem_cons_of_mem)))) (by decide) (by decide)).mono ?_; rintro ex w1 ⟨rfl, hb⟩; replace hL := hL.go hb; clear hb
          rw [hVn.out, hcmp0.out]
          go_wp2_with fail; refine (cmp_t (IsT.isN (hL.get (P := pT zv 6000 W) (by repeat (first | exact List.mem_cons_self | apply List.mem_cons_of_mem)))) (IsT.isN (hL.get (P := pT wv 32 W) (by repeat (first | exact List.mem_cons_self | apply List.mem_cons_of_mem)))) (by decide) (by decide)).mono ?_; rintro ex w1 ⟨rfl, hb⟩; replace hL := hL.go hb; clear hb
          rw [hcmp0.out]
          go_wp2
          go_ret
          exact ⟨by simp, hL.below⟩
        · rw [if_neg hVn] at hp2
          have hcn : cmpV (V : Int) (N : Int) = -1 := cmpV_lt (by omega)
          replace hp2 := Lib.hid hp2
          replace hVn := Lib.hid hVn
          go_wp2_with fail; refine (qparse_is T hTl (e + u) hU64 8 false 0 hp2.out _).mono ?_; rintro ex w1 ⟨zv, rfl, hv, hb⟩; replace hL := (hL.go hb).put (pT_st _ _ _) hv; clear hb hv
          go_wp2_with fail; refine (shr_t u W (IsT.isN (hL.get (P := pT (.slice A n c) 32 N) (by repeat (first | exact List.mem_cons_self | apply List.mem_cons_of_mem)))) (by decide) hW'.out).mono ?_; rintro ex w1 ⟨wv, rfl, hv, hb⟩; replace hL := (hL.go hb).put (pT_st _ _ _) hv; clear hb hv
          go_wp2_with fail; refine (shl_t u 32 V (IsT.isN (hL.get (P := pT wv 32 W) (by repeat (first | exact List.mem_cons_self | apply List.mem_cons_of_mem)))) (by decide) hV'.out hVb.out).mono ?_; rintro ex w1 ⟨vv, rfl, hv, hb⟩; replace hL := (hL.go hb).put (pT_st _ _ _) hv; clear hb hv
          go_wp2_with fail; refine (cmp_t (IsT.isN (hL.get (P := pT vv 32 V) (by repeat (first | exact List.mem_cons_self | apply List.mem_cons_of_mem)))) (IsT.isN (hL.get (P := pT (.slice A n c) 32 N) (by repeat (first | exact List.mem_cons_self | apply List.mem_cons_of_mem)))) (by decide) (by decide)).mono ?_; rintro ex w1 ⟨rfl, hb⟩; replace hL := hL.go hb; clear hb
          rw [hcn]
          go_wp2
          go_ret
          exact ⟨by simp, hL.below⟩
    · have hYi : (2048 : Int) < ((blen Y : Nat) : Int) := by have h9 : ¬ blen Y ≤ 2048 := fun h => hYq (blen_qB.1 h); omega
      have hp1 := hpd.out
      rw [if_neg hYq] at hp1
      replace hp1 := Lib.hid hp1
      go_wp2_with fail; refine (qparse_is T hTl E1 hE64 4 false 0 hp1.out _).mono ?_; rintro ex w1 ⟨xv, rfl, hv, hb⟩; replace hL := (hL.go hb).put (pT_st _ _ _) hv; clear hb hv
      go_wp2_with fail; refine (shl_t s 34 Y (IsT.isN (hL.get (P := pT (.slice A n c) 32 N) (by repeat (first | exact List.mem_cons_self | apply List.mem_cons_of_mem)))) (by decide) hY'.out hYb.out).mono ?_; rintro ex w1 ⟨yv, rfl, hv, hb⟩; replace hL := (hL.go hb).put (pT_st _ _ _) hv; clear hb hv
      go_wp2_with fail; refine (sbits_t (IsT.isN (hL.get (P := pT yv 34 Y) (by repeat (first | exact List.mem_cons_self | apply List.mem_cons_of_mem)))) (by decide)).mono ?_; rintro ex w' ⟨rfl, rfl⟩
      go_wp2
      go_ret
      exact ⟨by simp, hL.below⟩
  · obtain rfl : n = 0 := by omega
    go_wp2_with fail; refine (cmp_t (IsT.isN (hL.get (P := pT nv 6000 N) (by repeat (first | exact List.mem_cons_self | apply List.mem_cons_of_mem)))) (IsT.isN (hL.get (P := pT (.slice A 0 c) 32 N) (by repeat (first | exact List.mem_cons_self | apply List.mem_cons_of_mem)))) (by decide) (by decide)).mono ?_; rintro ex w1 ⟨rfl, hb⟩; replace hL := hL.go hb; clear hb
    rw [hcmp0.out]
    by_cases hYq : Y < qB
    · have hYi : ¬ (2048 : Int) < ((blen Y : Nat) : Int) := by have := blen_qB.2 hYq; omega
      have hp1 := hpd.out
      rw [if_pos hYq] at hp1
      replace hp1 := Lib.hid hp1
      go_wp2_with fail; refine (qparse_is T hTl E1 hE64 0 sgY Y hp1.out _).mono ?_; rintro ex w1 ⟨xv, rfl, hv, hb⟩; replace hL := (hL.go hb).put (pT_st _ _ _) hv; clear hb hv
      go_wp2_with fail; refine (shl_t s 34 Y (IsT.isN (hL.get (P := pT (.slice A 0 c) 32 N) (by repeat (first | exact List.mem_cons_self | apply List.mem_cons_of_mem)))) (by decide) hY'.out hYb.out).mono ?_; rintro ex w1 ⟨yv, rfl, hv, hb⟩; replace hL := (hL.go hb).put (pT_st _ _ _) hv; clear hb hv
      go_wp2_with fail; refine (sbits_t (IsT.isN (hL.get (P := pT yv 34 Y) (by repeat (first | exact List.mem_cons_self | apply List.mem_cons_of_mem)))) (by decide)).mono ?_; rintro ex w' ⟨rfl, rfl⟩
      go_wp2_with fail; refine (cmp_t (IsT.isN (hL.get (P := pT xv 6000 Y) (by repeat (first | exact List.mem_cons_self | apply List.mem_cons_of_mem)))) (IsT.isN (hL.get (P := pT yv 34 Y) (by repeat (first | exact List.mem_cons_self | apply List.mem_cons_of_mem)))) (by decide) (by decide)).mono ?_; rintro ex w1 ⟨rfl, hb⟩; replace hL := hL.go hb; clear hb
      rw [hcmp0.out]
      by_cases hfu : (1200 : Int) < e + (u : Int)
      · go_wp2_with fail; refine (cmp_t (IsT.isN (hL.get (P := pT xv 6000 Y) (by repeat (first | exact List.mem_cons_self | apply List.mem_cons_of_mem)))) (IsT.isN (hL.get (P := pT yv 34 Y) (by repeat (first | exact List.mem_cons_self | apply List.mem_cons_of_mem)))) (by decide) (by decide)).mono ?_; rintro ex w1 ⟨rfl, hb⟩; replace hL := hL.go hb; clear hb
        rw [hcmp0.out]
        go_wp2
        go_ret
        exact ⟨by simp, hL.below⟩
      · have hp2 := hpu.out (by omega)
        have hU64 : -9223372036854775808 ≤ e + (u : Int) ∧ e + (u : Int) ≤ 9223372036854775807 := by omega
        by_cases hVn : V = N
        · rw [if_pos hVn] at hp2
          replace hp2 := Lib.hid hp2
          replace hVn := Lib.hid hVn
          go_wp2_with fail; refine (qparse_is T hTl (e + u) hU64 0 sgW W hp2.out _).mono ?_; rintro ex w1 ⟨zv, rfl, hv, hb⟩; replace hL := (hL.go hb).put (pT_st _ _ _) hv; clear hb hv
          go_wp2_with fail; refine (shr_t u W (IsT.isN (hL.get (P := pT (.slice A 0 c) 32 N) (by repeat (first | exact List.mem_cons_self | apply List.mem_cons_of_mem)))) (by decide) hW'.out).mono ?_; rintro ex w1 ⟨wv, rfl, hv, hb⟩; replace hL := (hL.go hb).put (pT_st _ _ _) hv; clear hb hv
          go_wp2_with fail; refine (shl_t u 32 V (IsT.isN (hL.get (P := pT wv 32 W) (by repeat (first | exact List.mem_cons_self | apply List.mem_cons_of_mem)))) (by decide) hV'.out hVb.out).mono ?_; rintro ex w1 ⟨vv, rfl, hv, hb⟩; replace hL := (hL.go hb).put (pT_st _ _ _) hv; clear hb hv
          go_wp2_with fail; refine (cmp_t (IsT.isN (hL.get (P := pT vv 32 V) (by repeat (first | exact List.mem_cons_self | apply List.mem_cons_of_mem)))) (IsT.isN (hL.get (P := pT (.slice A 0 c) 32 N) (by repeat (first | exact List.mem_cons_self | apply List.mem_cons_of_mem)))) (by decide) (by decide)).mono ?_; rintro ex w1 ⟨rfl, hb⟩; replace hL := hL.go hb; clear hb
          rw [hVn.out, hcmp0.out]
          go_wp2_with fail; refine (cmp_t (IsT.isN (hL.get (P := pT zv 6000 W) (by repeat (first | exact List.mem_cons_self | apply List.mem_cons_of_mem)))) (IsT.isN (hL.get (P := pT wv 32 W) (by repeat (first | exact List.mem_cons_self | apply List.mem_cons_of_mem)))) (by decide) (by decide)).mono ?_; rintro ex w1 ⟨rfl, hb⟩; replace hL := hL.go hb; clear hb
          rw [hcmp0.out]
          go_wp2
          go_ret
          exact ⟨by simp, hL.below⟩
        · rw [if_neg hVn] at hp2
          have hcn : cmpV (V : Int) (N : Int) = -1 := cmpV_lt (by omega)
          replace hp2 := Lib.hid hp2
          replace hVn := Lib.hid hVn
          go_wp2_with fail; refine (qparse_is T hTl (e + u) hU64 8 false 0 hp2.out _).mono ?_; rintro ex w1 ⟨zv, rfl, hv, hb⟩; replace hL := (hL.go hb).put (pT_st _ _ _) hv; clear hb hv
          go_wp2_with fail; refine (shr_t u W (IsT.isN (hL.get (P := pT (.slice A 0 c) 32 N) (by repeat (first | exact List.mem_cons_self | apply List.mem_cons_of_mem)))) (by decide) hW'.out).mono ?_; rintro ex w1 ⟨wv, rfl, hv, hb⟩; replace hL := (hL.go hb).put (pT_st _ _ _) hv; clear hb hv
          go_wp2_with fail; refine (shl_t u 32 V (IsT.isN (hL.get (P := pT wv 32 W) (by repeat (first | exact List.mem_cons_self | apply List.mem_cons_of_mem)))) (by decide) hV'.out hVb.out).mono ?_; rintro ex w1 ⟨vv, rfl, hv, hb⟩; replace hL := (hL.go hb).put (pT_st _ _ _) hv; clear hb hv
          go_wp2_with fail; refine (cmp_t (IsT.isN (hL.get (P := pT vv 32 V) (by repeat (first | exact List.mem_cons_self | apply List.mem_cons_of_mem)))) (IsT.isN (hL.get (P := pT (.slice A 0 c) 32 N) (by repeat (first | exact List.mem_cons_self | apply List.mem_cons_of_mem)))) (by decide) (by decide)).mono ?_; rintro ex w1 ⟨rfl, hb⟩; replace hL := hL.go hb; clear hb
          rw [hcn]
          go_wp2
          go_ret
          exact ⟨by simp, hL.below⟩
    · have hYi : (2048 : Int) < ((blen Y : Nat) : Int) := by have h9 : ¬ blen Y ≤ 2048 := fun h => hYq (blen_qB.1 h); omega
      have hp1 := hpd.out
      rw [if_neg hYq] at hp1
      replace hp1 := Lib.hid hp1
      go_wp2_with fail; refine (qparse_is T hTl E1 hE64 4 false 0 hp1.out _).mono ?_; rintro ex w1 ⟨xv, rfl, hv, hb⟩; replace hL := (hL.go hb).put (pT_st _ _ _) hv; clear hb hv
      go_wp2_with fail; refine (shl_t s 34 Y (IsT.isN (hL.get (P := pT (.slice A 0 c) 32 N) (by repeat (first | exact List.mem_cons_self | apply List.mem_cons_of_mem)))) (by decide) hY'.out hYb.out).mono ?_; rintro ex w1 ⟨yv, rfl, hv, hb⟩; replace hL := (hL.go hb).put (pT_st _ _ _) hv; clear hb hv
      go_wp2_with fail; refine (sbits_t (IsT.isN (hL.get (P := pT yv 34 Y) (by repeat (first | exact List.mem_cons_self | apply List.mem_cons_of_mem)))) (by decide)).mono ?_; rintro ex w' ⟨rfl, rfl⟩
      go_wp2
      go_ret
      exact ⟨by simp, hL.below⟩
  ·
    go_wp2_with fail; refine (cmp_t (IsT.isN (hL.get (P := pT nv 6000 N) (by repeat (first | exact List.mem_cons_self | apply List.mem_cons_of_mem)))) (IsT.isN (hL.get (P := pT (.slice A n c) 32 N) (by repeat (first | exact List.mem_cons_self | apply List.mem_cons_of_mem)))) (by decide) (by decide)).mono ?_; rintro ex w1 ⟨rfl, hb⟩; replace hL := hL.go hb; clear hb
    rw [hcmp0.out]
    by_cases hYq : Y < qB
    · have hYi : ¬ (2048 : Int) < ((blen Y : Nat) : Int) := by have := blen_qB.2 hYq; omega
      have hp1 := hpd.out
      rw [if_pos hYq] at hp1
      replace hp1 := Lib.hid hp1
      go_wp2_with fail; refine (qparse_is T hTl E1 hE64 0 sgY Y hp1.out _).mono ?_; rintro ex w1 ⟨xv, rfl, hv, hb⟩; replace hL := (hL.go hb).put (pT_st _ _ _) hv; clear hb hv
      go_wp2_with fail; refine (shl_t s 34 Y (IsT.isN (hL.get (P := pT (.slice A n c) 32 N) (by repeat (first | exact List.mem_cons_self | apply List.mem_cons_of_mem)))) (by decide) hY'.out hYb.out).mono ?_; rintro ex w1 ⟨yv, rfl, hv, hb⟩; replace hL := (hL.go hb).put (pT_st _ _ _) hv; clear hb hv
      go_wp2_with fail; refine (sbits_t (IsT.isN (hL.get (P := pT yv 34 Y) (by repeat (first | exact List.mem_cons_self | apply List.mem_cons_of_mem)))) (by decide)).mono ?_; rintro ex w' ⟨rfl, rfl⟩
      go_wp2_with fail; refine (cmp_t (IsT.isN (hL.get (P := pT xv 6000 Y) (by repeat (first | exact List.mem_cons_self | apply List.mem_cons_of_mem)))) (IsT.isN (hL.get (P := pT yv 34 Y) (by repeat (first | exact List.mem_cons_self | apply List.mem_cons_of_mem)))) (by decide) (by decide)).mono ?_; rintro ex w1 ⟨rfl, hb⟩; replace hL := hL.go hb; clear hb
      rw [hcmp0.out]
      by_cases hfu : (1200 : Int) < e + (u : Int)
      · go_wp2_with fail; refine (cmp_t (IsT.isN (hL.get (P := pT xv 6000 Y) (by repeat (first | exact List.mem_cons_self | apply List.mem_cons_of_mem)))) (IsT.isN (hL.get (P := pT yv 34 Y) (by repeat (first | exact List.mem_cons_self | apply List.mem_cons_of_mem)))) (by decide) (by decide)).mono ?_; rintro ex w1 ⟨rfl, hb⟩; replace hL := hL.go hb; clear hb
        rw [hcmp0.out]
        go_wp2
        go_ret
        exact ⟨by simp, hL.below⟩
      · have hp2 := hpu.out (by omega)
        have hU64 : -9223372036854775808 ≤ e + (u : Int) ∧ e + (u : Int) ≤ 9223372036854775807 := by omega
        by_cases hVn : V = N
        · rw [if_pos hVn] at hp2
          replace hp2 := Lib.hid hp2
          replace hVn := Lib.hid hVn
          go_wp2_with fail; refine (qparse_is T hTl (e + u) hU64 0 sgW W hp2.out _).mono ?_; rintro ex w1 ⟨zv, rfl, hv, hb⟩; replace hL := (hL.go hb).put (pT_st _ _ _) hv; clear hb hv
          go_wp2_with fail; refine (shr_t u W (IsT.isN (hL.get (P := pT (.slice A n c) 32 N) (by repeat (first | exact List.mem_cons_self | apply List.mem_cons_of_mem)))) (by decide) hW'.out).mono ?_; rintro ex w1 ⟨wv, rfl, hv, hb⟩; replace hL := (hL.go hb).put (pT_st _ _ _) hv; clear hb hv
          go_wp2_with fail; refine (shl_t u 32 V (IsT.isN (hL.get (P := pT wv 32 W) (by repeat (first | exact List.mem_cons_self | apply List.mem_cons_of_mem)))) (by decide) hV'.out hVb.out).mono ?_; rintro ex w1 ⟨vv, rfl, hv, hb⟩; replace hL := (hL.go hb).put (pT_st _ _ _) hv; clear hb hv
          go_wp2_with fail; refine (cmp_t (IsT.isN (hL.get (P := pT vv 32 V) (by repeat (first | exact List.mem_cons_self | apply List.mem_cons_of_mem)))) (IsT.isN (hL.get (P := pT (.slice A n c) 32 N) (by repeat (first | exact List.mem_cons_self | apply List.mem_cons_of_mem)))) (by decide) (by decide)).mono ?_; rintro ex w1 ⟨rfl, hb⟩; replace hL := hL.go hb; clear hb
          rw [hVn.out, hcmp0.out]
          go_wp2_with fail; refine (cmp_t (IsT.isN (hL.get (P := pT zv 6000 W) (by repeat (first | exact List.mem_cons_self | apply List.mem_cons_of_mem)))) (IsT.isN (hL.get (P := pT wv 32 W) (by repeat (first | exact List.mem_cons_self | apply List.mem_cons_of_mem)))) (by decide) (by decide)).mono ?_; rintro ex w1 ⟨rfl, hb⟩; replace hL := hL.go hb; clear hb
          rw [hcmp0.out]
          go_wp2
          go_ret
          exact ⟨by simp, hL.below⟩
        · rw [if_neg hVn] at hp2
          have hcn : cmpV (V : Int) (N : Int) = -1 := cmpV_lt (by omega)
          replace hp2 := Lib.hid hp2
          replace hVn := Lib.hid hVn
          go_wp2_with fail; refine (qparse_is T hTl (e + u) hU64 8 false 0 hp2.out _).mono ?_; rintro ex w1 ⟨zv, rfl, hv, hb⟩; replace hL := (hL.go hb).put (pT_st _ _ _) hv; clear hb hv
          go_wp2_with fail; refine (shr_t u W (IsT.isN (hL.get (P := pT (.slice A n c) 32 N) (by repeat (first | exact List.mem_cons_self | apply List.mem_cons_of_mem)))) (by decide) hW'.out).mono ?_; rintro ex w1 ⟨wv, rfl, hv, hb⟩; replace hL := (hL.go hb).put (pT_st _ _ _) hv; clear hb hv
          go_wp2_with fail; refine (shl_t u 32 V (IsT.isN (hL.get (P := pT wv 32 W) (by repeat (first | exact List.mem_cons_self | apply List.mem_cons_of_mem)))) (by decide) hV'.out hVb.out).mono ?_; rintro ex w1 ⟨vv, rfl, hv, hb⟩; replace hL := (hL.go hb).put (pT_st _ _ _) hv; clear hb hv
          go_wp2_with fail; refine (cmp_t (IsT.isN (hL.get (P := pT vv 32 V) (by repeat (first | exact List.mem_cons_self | apply List.mem_cons_of_mem)))) (IsT.isN (hL.get (P := pT (.slice A n c) 32 N) (by repeat (first | exact List.mem_cons_self | apply List.mem_cons_of_mem)))) (by decide) (by decide)).mono ?_; rintro ex w1 ⟨rfl, hb⟩; replace hL := hL.go hb; clear hb
          rw [hcn]
          go_wp2
          go_ret
          exact ⟨by simp, hL.below⟩
    · have hYi : (2048 : Int) < ((blen Y : Nat) : Int) := by have h9 : ¬ blen Y ≤ 2048 := fun h => hYq (blen_qB.1 h); omega
      have hp1 := hpd.out
      rw [if_neg hYq] at hp1
      replace hp1 := Lib.hid hp1
      go_wp2_with fail; refine (qparse_is T hTl E1 hE64 4 false 0 hp1.out _).mono ?_; rintro ex w1 ⟨xv, rfl, hv, hb⟩; replace hL := (hL.go hb).put (pT_st _ _ _) hv; clear hb hv
      go_wp2_with fail; refine (shl_t s 34 Y (IsT.isN (hL.get (P := pT (.slice A n c) 32 N) (by repeat (first | exact List.mem_cons_self | apply List.mem_cons_of_mem)))) (by decide) hY'.out hYb.out).mono ?_; rintro ex w1 ⟨yv, rfl, hv, hb⟩; replace hL := (hL.go hb).put (pT_st _ _ _) hv; clear hb hv
      go_wp2_with fail; refine (sbits_t (IsT.isN (hL.get (P := pT yv 34 Y) (by repeat (first | exact List.mem_cons_self | apply List.mem_cons_of_mem)))) (by decide)).mono ?_; rintro ex w' ⟨rfl, rfl⟩
      go_wp2
      go_ret
      exact ⟨by simp, hL.below⟩
end Go.Proofs.YthafemcaekimpaaGreatDoor
namespace Go.Proofs.YthafemcaekimpaaGreatDoor
open Go.ChangeShapes Go.WideShapes Go.ChangeAt Go.RowKit Go.Cal
set_option maxRecDepth 100000 in
theorem qtextBack_lifted (os : Os) (started : os.Started) (H : Type) (enc : TypeId × Value → H) :
    ReturnsInHanded {} Tryz.checked os 5 .any (fun w args => (Rows.qtextBackSpec.pre enc Tryz.prog Tryz.f5 [] false w args ∧ laidMetH Tryz.prog Rows.qtextBackRow.laid w) ∧ sizedMet enc Tryz.prog Tryz.f5 (OpenSpec.ofChange Rows.qtextBackSpec) false w args)
      (Rows.qtextBackSpec.post enc Tryz.prog Tryz.f5 false true false false) := by
  refine returnsInHanded_of_change_and (C := Tryz.checked) (X := fun w _ => laidMetH Tryz.prog Rows.qtextBackRow.laid w) (fun _ _ _ hh h => h.of_heap hh) own started (by kernel_rfl) Tryz.func5
    (ChangeSpec.witness_shaped (enc := enc) (C := Tryz.checked) (os := os) (X := fun w _ => laidMetH Tryz.prog Rows.qtextBackRow.laid w) false (World.laidAll Tryz.prog os Rows.qtextBackRow.laid) #[.bool false, .slice none 0 0, .int .i64 0, .int .i64 0] 8 (World.laidAll_os _ _ _)
      (World.shaped_of_ZipB (by kernel_rfl) (by kernel_rfl)) (by kernel_rfl) (by kernel_rfl) (by kernel_rfl)
      (by rw [MakeChecks.laidMetH_plain _ _ _ (by kernel_rfl)]; exact laidMet_laidAll _ (by kernel_rfl) (by kernel_rfl))) ?_
  intro W base args ds gs before hval0 hW _ _ hL _
  have hval : ∀ (j : Nat) t v, Tryz.f5.params[j]? = some t → args[j]? = some v → Value.okWide Tryz.prog W .any base t v := hval0
  have hW' := hW
  obtain ⟨p, q, hA0, hV, rfl, hfz, hnd⟩ := hW
  have hA : DataW.TrodAll enc Tryz.prog W 0 (fun _ => true) true Tryz.f5.params.toList args.toList ds p := hA0
  rw [Tryz.params5] at hA hval
  obtain ⟨v0, v1, v2, v3, d0, d1, d2, d3, p0, p1, p2, p3, rfl, rfl, rfl, h0, h1, h2, h3⟩ := trodAll_four hA
  obtain ⟨rfl, rfl⟩ := trodVars_none hV
  have hlt := fun x hx => hW'.lt x hx
  simp only [List.append_nil, List.mem_append] at hlt
  obtain ⟨a0, rfl, rfl, rfl⟩ := open_bool Tryz.underlying4 (hval 0 4 v0 rfl rfl) h0
  have hl1 : ∀ x ∈ p1, x.block < W.heap.size := fun x hx => hlt x (by first | exact hx | simp [hx])
  have ha1 := argN_of (hval 1 23 v1 rfl rfl) h1 hl1
  obtain ⟨a2, rfl, rfl, rfl, wa2⟩ := open_int Tryz.underlying3 (hval 2 3 v2 rfl rfl) h2
  obtain ⟨a3, rfl, rfl, rfl, wa3⟩ := open_int Tryz.underlying3 (hval 3 3 v3 rfl rfl) h3
  have hT : Tab10 W := tab10_of_laid (laid := Rows.qtextBackRow.laid) (by rw [MakeChecks.laidMetH_plain _ _ _ (by kernel_rfl)] at hL; exact hL) (by dsimp only [Rows.qtextBackRow]; repeat (first | exact List.mem_cons_self | apply List.mem_cons_of_mem))
  clear hA0 hval0
  simp only [List.append_nil] at hW'
  refine (qtextBack_any a0 v1 a2 a3 W hT ha1 (bounds_i64 wa2) (bounds_i64 wa3)).mono fun e W' ⟨he, hw⟩ => ?_
  subst he
  exact ⟨_, rfl, _, _, _, [], _, [], hW', trodAll_mk1 (shut_bool Tryz.underlying4 _), trodAll_mk4 (shut_bool Tryz.underlying4 _) (Below.trod laid_out (by kernel_rfl) (of_decide_eq_true (by kernel_rfl)) h1 hw hl1) (shut_int Tryz.underlying3 wa2) (shut_int Tryz.underlying3 wa3), rfl, hw.frame _, fun h => by cases h⟩
theorem qtextBack_said : Rows.QtextBackSaid :=
  OpenClaim.holds_of_wide 5 Tryz.f5 rfl rfl rfl rfl rfl rfl rfl ⟨rfl, rfl, rfl, rfl, rfl⟩ rfl rfl rfl rfl rfl (by kernel_rfl) Tryz.func5 (by kernel_rfl)
    (of_decide_eq_true (by kernel_rfl)) (by unfold Func.isWrapper; first | (rw [if_pos (by decide +kernel)]; kernel_rfl) | (rw [if_neg (by decide +kernel)]; exact ⟨rfl, rfl⟩))
    (fun os started H enc _ => qtextBack_lifted os started H enc)
theorem qtextBack_plain (f : FuncId) (fn : Func) (hf : Tryz.pinned.checked.prog.funcNamed "caliper/caliperlaw16.QtextBack" = some f) (hfn : Tryz.pinned.checked.prog.funcs[f]? = some fn) :
    true = Tryz.pinned.checked.prog.looks [] ∧ ∀ (j : Nat) t, fn.params[j]? = some t → Tryz.pinned.checked.prog.wantsStandIn t = false := by
  obtain rfl : f = 5 := Option.some.inj ((show Tryz.prog.funcNamed "caliper/caliperlaw16.QtextBack" = some 5 by kernel_rfl).symm.trans hf) |>.symm
  obtain rfl : fn = Tryz.f5 := (Option.some.inj (Tryz.func5.symm.trans hfn)).symm
  refine ⟨by kernel_rfl, fun j t ht => ?_⟩
  rw [Tryz.params5] at ht
  have hm : t ∈ [4, 23, 3, 3] := by simpa using Array.mem_of_getElem? ht
  have hall : ([4, 23, 3, 3].all fun u => !Tryz.prog.wantsStandIn u) = true := by kernel_rfl
  exact (show Tryz.prog.wantsStandIn t = false by simpa using List.all_eq_true.1 hall t hm)
theorem qtextBack_card : Rows.QtextBackCardSaid :=
  Claim7.holds_tied_plain_at .later [] _ _ _ _ qtextBack_said (fun _ h => by cases h) (by kernel_rfl) (fun _ h => by cases h) qtextBack_row_tie rfl ⟨rfl, rfl⟩ (by kernel_rfl) rfl qtextBack_plain (by kernel_rfl)
end Go.Proofs.YthafemcaekimpaaGreatDoor
