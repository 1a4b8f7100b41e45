/- The document's answer for chapter 12, walked: Layout; the law LayoutTells. Conditions: the variables that the library reads. -/
import Derived.Test.YtncfbleeidjflaaGreatDoorPz45
namespace Go.Proofs.YtncfbleeidjflaaGreatDoor
open Go.RowKit Go.Cal
/-- What is written of a number with its point inside or behind, after i places. -/
def lyG (S : List UInt8) (p i : Nat) : List UInt8 := if i ≤ p then S.take i ++ List.replicate (i - S.length) 48 else S.take p ++ 46 :: (S.drop p).take (i - p)
theorem lyG_len (S : List UInt8) (p i : Nat) : (lyG S p i).length ≤ S.length + i + 1 := by
  unfold lyG
  split
  · rw [List.length_append, List.length_take, List.length_replicate]; omega
  · rw [List.length_append, List.length_cons, List.length_take, List.length_take, List.length_drop]; omega
theorem lyG_dig {S : List UInt8} {p i : Nat} (h : i < S.length) : lyG S p (i + 1) = lyG S p i ++ (if i = p then [46] else []) ++ [S.getD i 0] := by
  have ht : S.take (i + 1) = S.take i ++ [S.getD i 0] := by
    rw [List.take_add_one, List.getElem?_eq_getElem h, List.getD_eq_getElem?_getD, List.getElem?_eq_getElem h]
    rfl
  unfold lyG
  by_cases h1 : i + 1 ≤ p
  · rw [if_pos h1, if_pos (by omega), if_neg (by omega), ht, show i + 1 - S.length = 0 by omega, show i - S.length = 0 by omega]
    simp
  · rw [if_neg h1]
    by_cases h2 : i = p
    · subst h2
      rw [if_pos (Nat.le_refl _), if_pos rfl, show i - S.length = 0 by omega, show i + 1 - i = 1 by omega]
      have : (S.drop i).take 1 = [S.getD i 0] := by
        rw [List.drop_eq_getElem_cons h, List.take_succ_cons, List.take_zero, List.getD_eq_getElem?_getD, List.getElem?_eq_getElem h]
        rfl
      rw [this]
      simp
    · rw [if_neg (by omega), if_neg h2]
      have : (S.drop p).take (i + 1 - p) = (S.drop p).take (i - p) ++ [S.getD i 0] := by
        rw [show i + 1 - p = (i - p) + 1 by omega, List.take_add_one, List.getElem?_drop, show p + (i - p) = i by omega, List.getElem?_eq_getElem h, List.getD_eq_getElem?_getD, List.getElem?_eq_getElem h]
        rfl
      rw [this]
      simp
theorem lyG_zero {S : List UInt8} {p i : Nat} (h : S.length ≤ i) (hp : i < p) : lyG S p (i + 1) = lyG S p i ++ [48] := by
  unfold lyG
  rw [if_pos (by omega), if_pos (by omega), List.take_of_length_le h, List.take_of_length_le (by omega), show i + 1 - S.length = (i - S.length) + 1 by omega, List.replicate_succ']
  simp
theorem lyG_start (S : List UInt8) (p : Nat) : lyG S p 0 = [] := by unfold lyG; simp
theorem lyG_end {S : List UInt8} {k : Int} {p : Nat} (hp : (S.length : Int) + k = p) (h1 : 1 ≤ p) (h2 : p ≤ 21) : lyG S p (max S.length p) = lyB S k := by
  unfold lyG lyB
  by_cases hk : 0 ≤ k
  · rw [if_pos (by omega), if_pos ⟨hk, by omega⟩, List.take_of_length_le (by omega), show max S.length p - S.length = k.toNat by omega]
  · rw [if_neg (by omega), if_neg (by omega), if_pos ⟨by omega, by omega⟩, hp, Int.toNat_natCast, List.take_of_length_le (l := S.drop p) (by rw [List.length_drop]; omega)]
theorem isT_posU {w : World} {A : Option Addr} {n c m N : Nat} (h : IsT w (.slice A n c) m N) (h0 : 0 < N) : 0 < n := by
  obtain ⟨A', c', zs, e, _, _, _, _, nr⟩ := h
  injection e with e1 e2 e3
  subst e2
  refine List.length_pos_iff.2 fun e => ?_
  subst e
  have := nr.val
  simp [vl] at this
  omega
theorem rcat (a b : List UInt8) (B C : ByteArray) (hB : B = strL a) (hC : C = strL b) (k : Nat) (hk : a.length + b.length ≤ k) : ∃ t, B ++ C = strL t ∧ Hid (t = a ++ b) ∧ (strL t).size = t.length ∧ t.length ≤ k :=
  ⟨a ++ b, by rw [hB, hC, strL_appL], Lib.hid rfl, strL_size _, by rw [List.length_append]; exact hk⟩
theorem slice_one (S : List UInt8) (i : Nat) (hi : i < S.length) (w : World) : (Instr.slice 9 (.string (strL S)) (some (.int .i64 i)) (some (.int .i64 (i + 1))) none).run Tryz.prog w = .ok (.string (strL [S.getD i 0])) w := by
  rw [run_slice_string _ _ _ .i64 .i64 i (i + 1) sunder_str (by omega) (by omega) (by rw [strL_size]; omega), strL_extract]
  have e : (S.drop (i : Int).toNat).take (((i : Int) + 1).toNat - (i : Int).toNat) = [S.getD i 0] := by
    rw [Int.toNat_natCast, show ((i : Int) + 1).toNat - i = 1 by omega, List.drop_eq_getElem_cons hi, List.take_succ_cons, List.take_zero, List.getD_eq_getElem?_getD, List.getElem?_eq_getElem hi]
    rfl
  rw [e]
set_option maxRecDepth 100000 in
set_option maxHeartbeats 2000000 in
theorem rfar1_p {w : World} {v : Value} {N : Nat} (k : Int) (h : IsT w v 128 N) (hd : DRight N k) (h0 : 0 < N) (hc : (21 < ((Lib.decDigits N).length : Int) + k ∨ ((Lib.decDigits N).length : Int) + k < -5) ∧ (Lib.decDigits N).length = 1) :
    Calls Tryz.prog 26 #[.agg #[.bool false, v, .int .i64 k]] w fun e w' => e = .returned (.string (strL (lyT false N k))) ∧ Below w.heap.size w w' := by
  have hb0 := (Below.refl w.heap.size w).alloc (Nat.le_refl _) (.cells #[.bool false, v, .int .i64 k] 51)
  have hr := rright_t false k (h.below hb0)
  rw [decide_eq_true hd] at hr
  obtain ⟨A, c, zs, rfl, -⟩ := id h
  obtain ⟨n, hn⟩ : ∃ n, zs.length = n := ⟨_, rfl⟩
  rw [hn] at hr h hb0 ⊢
  clear hn
  have hzn := isT_posU h h0
  have hL := ((LiveP.start w).put (pT_st _ _ _) h |>.go hb0).put (pBlk_st _ _ _) (pBlk_made w #[.bool false, .slice A n c, .int .i64 k] 51)
  have hnb : ((n : Int) == 0) = false := by rw [beq_eq_false_iff_ne]; omega
  obtain ⟨S, hS⟩ : ∃ S, Lib.decDigits N = S := ⟨_, rfl⟩
  rw [hS] at hc
  obtain ⟨z, hz⟩ : ∃ z, S.length = z := ⟨_, rfl⟩
  rw [hz] at hc
  have hz0 : 0 < z := by rw [← hz, ← hS]; exact List.length_pos_iff.2 (dec_ne N)
  have hzz : z ≤ 2000 := by
    rcases hd with ⟨h1, _⟩ | ⟨_, _, h1, _⟩
    · omega
    · rw [hS, hz] at h1; exact h1
  have hk5 : -5000 ≤ k ∧ k ≤ 5000 := by
    rcases hd with ⟨h1, _⟩ | ⟨_, _, _, h1, h2⟩
    · omega
    · exact ⟨h1, h2⟩
  obtain ⟨hk5, hk6⟩ := hk5
  have hsz : (strL S).size = z := by rw [strL_size, hz]
  have htx := rtext_t (IsT.isN h) (by decide)
  rw [hS] at htx
  replace htx := Lib.hid htx
  replace hr := Lib.hid hr
  have hT0 : lyT false N k = [] ++ lyB S k := by rw [lyT, lyS_pos h0, hS]; rfl
  replace hS := Lib.hid hS
  replace hz := Lib.hid hz
  replace hd := Lib.hid hd
  clear h hzn
  obtain ⟨hcf, hc1⟩ := hc
  have hsl : ∀ w, (Instr.slice 9 (.string (strL S)) none (some (.int .i64 1)) none).run Tryz.prog w = .ok (.string (strL (S.take 1))) w := fun w => slice_to S 1 (by have := hz.out; omega) w
  obtain ⟨s1, hs1⟩ : ∃ x, S.take 1 = x := ⟨_, rfl⟩
  rw [hs1] at hsl
  have hs1l : s1.length ≤ 1 := by rw [← hs1, List.length_take]; omega
  have hzs := strL_size s1
  obtain ⟨o1, e1, i1, z1, y1⟩ := rcat [] s1 ⟨#[]⟩ (strL s1) rfl rfl 3 (by simp; omega)
  obtain ⟨o2, e2, i2, z2, y2⟩ := lcat_l o1 [101] ⟨#[101]⟩ rfl 4 (by simp; omega)
  have hul := numT_lenL ((z : Int) + k - 1) (by omega)
  have hnm := fun w => rnum_any ((z : Int) + k - 1) ⟨by omega, by omega⟩ w
  obtain ⟨u, hu⟩ : ∃ u, numT ((z : Int) + k - 1) = u := ⟨_, rfl⟩
  rw [hu] at hul hnm
  have hzu := strL_size u
  obtain ⟨o3, e3, i3, z3, y3⟩ := lcat_l o2 u (strL u) rfl 30 (by omega)
  have hB : lyB S k = S ++ 101 :: numT ((z : Int) + k - 1) := by
    unfold lyB
    rw [hz.out, if_neg (by omega), if_neg (by omega), if_neg (by omega), if_pos (by omega)]
  have hfin : lyT false N k = o3 := by
    have hS1 : s1 = S := by rw [← hs1, List.take_of_length_le (by have := hz.out; omega)]
    rw [hT0, hB, hu, i3.out, i2.out, i1.out, hS1]
    simp
  rw [hfin]
  replace hnm := Lib.hid hnm
  have hz1 : ¬ (1 : Int) < z := by omega
  replace hc1 := Lib.hid hc1
  clear hfin hB hT0 hu hs1
  rcases hcf with hcf | hcf
  all_goals
    go_enter Tryz.func26, Tryz.ntmps26
    go_wp2_with fail
    refine hr.out.mono ?_
    rintro e w1 ⟨rfl, hb⟩
    have hbw := chain hb0 hb
    replace hL := hL.go hb
    clear hb hr
    have q0 := (hL.get (P := pBlk w.heap.size #[.bool false, .slice A n c, .int .i64 k] 51) (by repeat (first | exact List.mem_cons_self | apply List.mem_cons_of_mem))).cell 0 _ rfl
    have q1 := (hL.get (P := pBlk w.heap.size #[.bool false, .slice A n c, .int .i64 k] 51) (by repeat (first | exact List.mem_cons_self | apply List.mem_cons_of_mem))).cell 1 _ rfl
    have q2 := (hL.get (P := pBlk w.heap.size #[.bool false, .slice A n c, .int .i64 k] 51) (by repeat (first | exact List.mem_cons_self | apply List.mem_cons_of_mem))).cell 2 _ rfl
    go_wp2_with fail
    refine (htx.out _ hbw).mono ?_
    rintro e w2 ⟨u, rfl, hb, hdg⟩
    replace hL := hL.go hb
    replace hdg := Lib.hid (hdg _ (Below.refl _ _))
    clear hb htx q0 q1 q2 hbw
    go_wp2_with fail
    refine hdg.out.mono ?_
    rintro e w3 ⟨rfl, hb⟩
    replace hL := hL.go hb
    clear hb hdg
    have q0 := (hL.get (P := pBlk w.heap.size #[.bool false, .slice A n c, .int .i64 k] 51) (by repeat (first | exact List.mem_cons_self | apply List.mem_cons_of_mem))).cell 0 _ rfl
    have q1 := (hL.get (P := pBlk w.heap.size #[.bool false, .slice A n c, .int .i64 k] 51) (by repeat (first | exact List.mem_cons_self | apply List.mem_cons_of_mem))).cell 1 _ rfl
    have q2 := (hL.get (P := pBlk w.heap.size #[.bool false, .slice A n c, .int .i64 k] 51) (by repeat (first | exact List.mem_cons_self | apply List.mem_cons_of_mem))).cell 2 _ rfl
    go_wp2_with fail
    refine (hnm.out _).mono ?_
    rintro e w4 ⟨rfl, hb⟩
    replace hL := hL.go hb
    go_wp2
    go_ret
    exact ⟨rfl, hL.below⟩
set_option maxRecDepth 100000 in
set_option maxHeartbeats 2000000 in
theorem rfar2_p {w : World} {v : Value} {N : Nat} (k : Int) (h : IsT w v 128 N) (hd : DRight N k) (h0 : 0 < N) (hc : (21 < ((Lib.decDigits N).length : Int) + k ∨ ((Lib.decDigits N).length : Int) + k < -5) ∧ 1 < (Lib.decDigits N).length) :
    Calls Tryz.prog 26 #[.agg #[.bool false, v, .int .i64 k]] w fun e w' => e = .returned (.string (strL (lyT false N k))) ∧ Below w.heap.size w w' := by
  have hb0 := (Below.refl w.heap.size w).alloc (Nat.le_refl _) (.cells #[.bool false, v, .int .i64 k] 51)
  have hr := rright_t false k (h.below hb0)
  rw [decide_eq_true hd] at hr
  obtain ⟨A, c, zs, rfl, -⟩ := id h
  obtain ⟨n, hn⟩ : ∃ n, zs.length = n := ⟨_, rfl⟩
  rw [hn] at hr h hb0 ⊢
  clear hn
  have hzn := isT_posU h h0
  have hL := ((LiveP.start w).put (pT_st _ _ _) h |>.go hb0).put (pBlk_st _ _ _) (pBlk_made w #[.bool false, .slice A n c, .int .i64 k] 51)
  have hnb : ((n : Int) == 0) = false := by rw [beq_eq_false_iff_ne]; omega
  obtain ⟨S, hS⟩ : ∃ S, Lib.decDigits N = S := ⟨_, rfl⟩
  rw [hS] at hc
  obtain ⟨z, hz⟩ : ∃ z, S.length = z := ⟨_, rfl⟩
  rw [hz] at hc
  have hz0 : 0 < z := by rw [← hz, ← hS]; exact List.length_pos_iff.2 (dec_ne N)
  have hzz : z ≤ 2000 := by
    rcases hd with ⟨h1, _⟩ | ⟨_, _, h1, _⟩
    · omega
    · rw [hS, hz] at h1; exact h1
  have hk5 : -5000 ≤ k ∧ k ≤ 5000 := by
    rcases hd with ⟨h1, _⟩ | ⟨_, _, _, h1, h2⟩
    · omega
    · exact ⟨h1, h2⟩
  obtain ⟨hk5, hk6⟩ := hk5
  have hsz : (strL S).size = z := by rw [strL_size, hz]
  have htx := rtext_t (IsT.isN h) (by decide)
  rw [hS] at htx
  replace htx := Lib.hid htx
  replace hr := Lib.hid hr
  have hT0 : lyT false N k = [] ++ lyB S k := by rw [lyT, lyS_pos h0, hS]; rfl
  replace hS := Lib.hid hS
  replace hz := Lib.hid hz
  replace hd := Lib.hid hd
  clear h hzn
  obtain ⟨hcf, hc1⟩ := hc
  have hsl : ∀ w, (Instr.slice 9 (.string (strL S)) none (some (.int .i64 1)) none).run Tryz.prog w = .ok (.string (strL (S.take 1))) w := fun w => slice_to S 1 (by have := hz.out; omega) w
  have hsf : ∀ w, (Instr.slice 9 (.string (strL S)) (some (.int .i64 1)) none none).run Tryz.prog w = .ok (.string (strL (S.drop 1))) w := fun w => slice_from S 1 (by have := hz.out; omega) w
  obtain ⟨s1, hs1⟩ : ∃ x, S.take 1 = x := ⟨_, rfl⟩
  obtain ⟨s2, hs2⟩ : ∃ x, S.drop 1 = x := ⟨_, rfl⟩
  rw [hs1] at hsl
  rw [hs2] at hsf
  have hs1l : s1.length ≤ 1 := by rw [← hs1, List.length_take]; omega
  have hs2l : s2.length ≤ 2000 := by rw [← hs2, List.length_drop]; have := hz.out; omega
  have hzs := strL_size s1
  have hzt := strL_size s2
  obtain ⟨o1, e1, i1, z1, y1⟩ := rcat [] s1 ⟨#[]⟩ (strL s1) rfl rfl 3 (by simp; omega)
  obtain ⟨o2, e2, i2, z2, y2⟩ := lcat_l o1 [46] ⟨#[46]⟩ rfl 4 (by simp; omega)
  obtain ⟨o3, e3, i3, z3, y3⟩ := lcat_l o2 s2 (strL s2) rfl 2010 (by omega)
  obtain ⟨o4, e4, i4, z4, y4⟩ := lcat_l o3 [101] ⟨#[101]⟩ rfl 2020 (by simp; omega)
  have hul := numT_lenL ((z : Int) + k - 1) (by omega)
  have hnm := fun w => rnum_any ((z : Int) + k - 1) ⟨by omega, by omega⟩ w
  obtain ⟨u, hu⟩ : ∃ u, numT ((z : Int) + k - 1) = u := ⟨_, rfl⟩
  rw [hu] at hul hnm
  have hzu := strL_size u
  obtain ⟨o5, e5, i5, z5, y5⟩ := lcat_l o4 u (strL u) rfl 2060 (by omega)
  have hB : lyB S k = S.take 1 ++ 46 :: (S.drop 1 ++ 101 :: numT ((z : Int) + k - 1)) := by
    unfold lyB
    rw [hz.out, if_neg (by omega), if_neg (by omega), if_neg (by omega), if_neg (by omega)]
  have hfin : lyT false N k = o5 := by
    rw [hT0, hB, hu, i5.out, i4.out, i3.out, i2.out, i1.out, hs1, hs2]
    simp
  rw [hfin]
  replace hnm := Lib.hid hnm
  have hz1 : (1 : Int) < z := by omega
  clear hfin hB hT0 hu hs1 hs2
  rcases hcf with hcf | hcf
  all_goals
    go_enter Tryz.func26, Tryz.ntmps26
    go_wp2_with fail
    refine hr.out.mono ?_
    rintro e w1 ⟨rfl, hb⟩
    have hbw := chain hb0 hb
    replace hL := hL.go hb
    clear hb hr
    have q0 := (hL.get (P := pBlk w.heap.size #[.bool false, .slice A n c, .int .i64 k] 51) (by repeat (first | exact List.mem_cons_self | apply List.mem_cons_of_mem))).cell 0 _ rfl
    have q1 := (hL.get (P := pBlk w.heap.size #[.bool false, .slice A n c, .int .i64 k] 51) (by repeat (first | exact List.mem_cons_self | apply List.mem_cons_of_mem))).cell 1 _ rfl
    have q2 := (hL.get (P := pBlk w.heap.size #[.bool false, .slice A n c, .int .i64 k] 51) (by repeat (first | exact List.mem_cons_self | apply List.mem_cons_of_mem))).cell 2 _ rfl
    go_wp2_with fail
    refine (htx.out _ hbw).mono ?_
    rintro e w2 ⟨u, rfl, hb, hdg⟩
    replace hL := hL.go hb
    replace hdg := Lib.hid (hdg _ (Below.refl _ _))
    clear hb htx q0 q1 q2 hbw
    go_wp2_with fail
    refine hdg.out.mono ?_
    rintro e w3 ⟨rfl, hb⟩
    replace hL := hL.go hb
    clear hb hdg
    have q0 := (hL.get (P := pBlk w.heap.size #[.bool false, .slice A n c, .int .i64 k] 51) (by repeat (first | exact List.mem_cons_self | apply List.mem_cons_of_mem))).cell 0 _ rfl
    have q1 := (hL.get (P := pBlk w.heap.size #[.bool false, .slice A n c, .int .i64 k] 51) (by repeat (first | exact List.mem_cons_self | apply List.mem_cons_of_mem))).cell 1 _ rfl
    have q2 := (hL.get (P := pBlk w.heap.size #[.bool false, .slice A n c, .int .i64 k] 51) (by repeat (first | exact List.mem_cons_self | apply List.mem_cons_of_mem))).cell 2 _ rfl
    go_wp2_with fail
    refine (hnm.out _).mono ?_
    rintro e w4 ⟨rfl, hb⟩
    replace hL := hL.go hb
    go_wp2
    go_ret
    exact ⟨rfl, hL.below⟩
set_option maxRecDepth 100000 in
set_option maxHeartbeats 2000000 in
theorem rmid_p {w : World} {v : Value} {N : Nat} (k : Int) (h : IsT w v 128 N) (hd : DRight N k) (h0 : 0 < N) (hc : -5 ≤ ((Lib.decDigits N).length : Int) + k ∧ ((Lib.decDigits N).length : Int) + k ≤ 0) :
    Calls Tryz.prog 26 #[.agg #[.bool false, v, .int .i64 k]] w fun e w' => e = .returned (.string (strL (lyT false N k))) ∧ Below w.heap.size w w' := by
  have hb0 := (Below.refl w.heap.size w).alloc (Nat.le_refl _) (.cells #[.bool false, v, .int .i64 k] 51)
  have hr := rright_t false k (h.below hb0)
  rw [decide_eq_true hd] at hr
  obtain ⟨A, c, zs, rfl, -⟩ := id h
  obtain ⟨n, hn⟩ : ∃ n, zs.length = n := ⟨_, rfl⟩
  rw [hn] at hr h hb0 ⊢
  clear hn
  have hzn := isT_posU h h0
  have hL := ((LiveP.start w).put (pT_st _ _ _) h |>.go hb0).put (pBlk_st _ _ _) (pBlk_made w #[.bool false, .slice A n c, .int .i64 k] 51)
  have hnb : ((n : Int) == 0) = false := by rw [beq_eq_false_iff_ne]; omega
  obtain ⟨S, hS⟩ : ∃ S, Lib.decDigits N = S := ⟨_, rfl⟩
  rw [hS] at hc
  obtain ⟨z, hz⟩ : ∃ z, S.length = z := ⟨_, rfl⟩
  rw [hz] at hc
  have hz0 : 0 < z := by rw [← hz, ← hS]; exact List.length_pos_iff.2 (dec_ne N)
  have hzz : z ≤ 2000 := by
    rcases hd with ⟨h1, _⟩ | ⟨_, _, h1, _⟩
    · omega
    · rw [hS, hz] at h1; exact h1
  have hk5 : -5000 ≤ k ∧ k ≤ 5000 := by
    rcases hd with ⟨h1, _⟩ | ⟨_, _, _, h1, h2⟩
    · omega
    · exact ⟨h1, h2⟩
  obtain ⟨hk5, hk6⟩ := hk5
  have hsz : (strL S).size = z := by rw [strL_size, hz]
  have htx := rtext_t (IsT.isN h) (by decide)
  rw [hS] at htx
  replace htx := Lib.hid htx
  replace hr := Lib.hid hr
  have hT0 : lyT false N k = [] ++ lyB S k := by rw [lyT, lyS_pos h0, hS]; rfl
  replace hS := Lib.hid hS
  replace hz := Lib.hid hz
  replace hd := Lib.hid hd
  clear h hzn
  obtain ⟨hc1, hc2⟩ := hc
  obtain ⟨m, hm⟩ : ∃ m : Nat, -((z : Int) + k) = m := ⟨(-((z : Int) + k)).toNat, by omega⟩
  have hB : lyB S k = 48 :: 46 :: (List.replicate m 48 ++ S) := by
    unfold lyB
    rw [hz.out, if_neg (by omega), if_neg (by omega), if_pos ⟨by omega, by omega⟩, hm, Int.toNat_natCast]
  obtain ⟨o1, e1, i1, z1, y1⟩ := rcat [] [48, 46] ⟨#[]⟩ ⟨#[48, 46]⟩ rfl rfl 3 (by decide)
  have hfin : ∀ Z, Z = List.replicate m 48 → lyT false N k = o1 ++ Z ++ S := by
    intro Z hZ
    rw [hT0, hB, i1.out, hZ]
    simp
  replace hfin := Lib.hid hfin
  have hp1 : ¬ 21 < (z : Int) + k := by omega
  have hp2 : ¬ (z : Int) + k < -5 := by omega
  clear hB hT0
  go_enter Tryz.func26, Tryz.ntmps26
  go_wp2_with fail
  refine hr.out.mono ?_
  rintro e w1 ⟨rfl, hb⟩
  have hbw := chain hb0 hb
  replace hL := hL.go hb
  clear hb hr
  have q0 := (hL.get (P := pBlk w.heap.size #[.bool false, .slice A n c, .int .i64 k] 51) (by repeat (first | exact List.mem_cons_self | apply List.mem_cons_of_mem))).cell 0 _ rfl
  have q1 := (hL.get (P := pBlk w.heap.size #[.bool false, .slice A n c, .int .i64 k] 51) (by repeat (first | exact List.mem_cons_self | apply List.mem_cons_of_mem))).cell 1 _ rfl
  have q2 := (hL.get (P := pBlk w.heap.size #[.bool false, .slice A n c, .int .i64 k] 51) (by repeat (first | exact List.mem_cons_self | apply List.mem_cons_of_mem))).cell 2 _ rfl
  go_wp2_with fail
  refine (htx.out _ hbw).mono ?_
  rintro e w2 ⟨u, rfl, hb, hdg⟩
  replace hL := hL.go hb
  replace hdg := Lib.hid (hdg _ (Below.refl _ _))
  clear hb htx q0 q1 q2 hbw
  go_wp2_with fail
  refine hdg.out.mono ?_
  rintro e w3 ⟨rfl, hb⟩
  replace hL := hL.go hb
  clear hb hdg
  have q0 := (hL.get (P := pBlk w.heap.size #[.bool false, .slice A n c, .int .i64 k] 51) (by repeat (first | exact List.mem_cons_self | apply List.mem_cons_of_mem))).cell 0 _ rfl
  have q1 := (hL.get (P := pBlk w.heap.size #[.bool false, .slice A n c, .int .i64 k] 51) (by repeat (first | exact List.mem_cons_self | apply List.mem_cons_of_mem))).cell 1 _ rfl
  have q2 := (hL.get (P := pBlk w.heap.size #[.bool false, .slice A n c, .int .i64 k] 51) (by repeat (first | exact List.mem_cons_self | apply List.mem_cons_of_mem))).cell 2 _ rfl
  go_wp2
  go_loopg [4, 7] m (fun g ov iv wr => ∃ i : Nat, i + g = m ∧ ov = .string (strL (o1 ++ List.replicate i 48)) ∧ iv = .int .i64 ((z : Int) + k + i) ∧ w3 = wr)
  case atStart => exact ⟨0, by omega, by simp, by simp, rfl⟩
  case round =>
    obtain ⟨i, hig, rfl, rfl, rfl⟩ := hrel
    by_cases hk0 : gk = 0
    · obtain rfl : m = i := by omega
      have hx : ¬ (z : Int) + k + (m : Int) < 0 := by omega
      have hf := hfin.out _ rfl
      obtain ⟨o2, ho2⟩ : ∃ x, o1 ++ List.replicate m 48 = x := ⟨_, rfl⟩
      have hol : o2.length ≤ 20 := by rw [← ho2, List.length_append, List.length_replicate]; omega
      rw [ho2] at hf ⊢
      have hzo := strL_size o2
      obtain ⟨o3, e3, i3, z3, y3⟩ := lcat_l o2 S (strL S) rfl 2030 (by have := hz.out; omega)
      rw [← i3.out] at hf
      replace hf := Lib.hid hf
      clear ho2
      go_wp2
      go_ret
      refine ⟨?_, hL.below⟩
      rw [hf.out]
      rfl
    · have hx : (z : Int) + k + (i : Int) < 0 := by omega
      obtain ⟨o2, ho2⟩ : ∃ x, o1 ++ List.replicate i 48 = x := ⟨_, rfl⟩
      have hol : o2.length ≤ 20 := by rw [← ho2, List.length_append, List.length_replicate]; omega
      rw [ho2]
      have hzo := strL_size o2
      obtain ⟨o3, e3, i3, z3, y3⟩ := lcat_l o2 [48] ⟨#[48]⟩ rfl 30 (by simp; omega)
      have hn : o3 = o1 ++ List.replicate (i + 1) 48 := by rw [i3.out, ← ho2, List.replicate_succ', List.append_assoc]
      replace hn := Lib.hid hn
      clear hL ho2 i3
      go_wp2
      go_roundg (gk - 1)
      case measure => omega
      case rel => exact ⟨i + 1, by omega, by rw [hn.out], by first | (congr 1; omega) | (simp; omega), rfl⟩
set_option maxRecDepth 100000 in
set_option maxHeartbeats 2000000 in
theorem rwide_p {w : World} {v : Value} {N : Nat} (k : Int) (h : IsT w v 128 N) (hd : DRight N k) (h0 : 0 < N) (hc : 1 ≤ ((Lib.decDigits N).length : Int) + k ∧ ((Lib.decDigits N).length : Int) + k ≤ 21) :
    Calls Tryz.prog 26 #[.agg #[.bool false, v, .int .i64 k]] w fun e w' => e = .returned (.string (strL (lyT false N k))) ∧ Below w.heap.size w w' := by
  have hb0 := (Below.refl w.heap.size w).alloc (Nat.le_refl _) (.cells #[.bool false, v, .int .i64 k] 51)
  have hr := rright_t false k (h.below hb0)
  rw [decide_eq_true hd] at hr
  obtain ⟨A, c, zs, rfl, -⟩ := id h
  obtain ⟨n, hn⟩ : ∃ n, zs.length = n := ⟨_, rfl⟩
  rw [hn] at hr h hb0 ⊢
  clear hn
  have hzn := isT_posU h h0
  have hL := ((LiveP.start w).put (pT_st _ _ _) h |>.go hb0).put (pBlk_st _ _ _) (pBlk_made w #[.bool false, .slice A n c, .int .i64 k] 51)
  have hnb : ((n : Int) == 0) = false := by rw [beq_eq_false_iff_ne]; omega
  obtain ⟨S, hS⟩ : ∃ S, Lib.decDigits N = S := ⟨_, rfl⟩
  rw [hS] at hc
  obtain ⟨z, hz⟩ : ∃ z, S.length = z := ⟨_, rfl⟩
  rw [hz] at hc
  have hz0 : 0 < z := by rw [← hz, ← hS]; exact List.length_pos_iff.2 (dec_ne N)
  have hzz : z ≤ 2000 := by
    rcases hd with ⟨h1, _⟩ | ⟨_, _, h1, _⟩
    · omega
    · rw [hS, hz] at h1; exact h1
  have hk5 : -5000 ≤ k ∧ k ≤ 5000 := by
    rcases hd with ⟨h1, _⟩ | ⟨_, _, _, h1, h2⟩
    · omega
    · exact ⟨h1, h2⟩
  obtain ⟨hk5, hk6⟩ := hk5
  have hsz : (strL S).size = z := by rw [strL_size, hz]
  have htx := rtext_t (IsT.isN h) (by decide)
  rw [hS] at htx
  replace htx := Lib.hid htx
  replace hr := Lib.hid hr
  have hT0 : lyT false N k = [] ++ lyB S k := by rw [lyT, lyS_pos h0, hS]; rfl
  replace hS := Lib.hid hS
  replace hz := Lib.hid hz
  replace hd := Lib.hid hd
  clear h hzn
  obtain ⟨hc1, hc2⟩ := hc
  obtain ⟨p, hp⟩ : ∃ p : Nat, (z : Int) + k = p := ⟨((z : Int) + k).toNat, by omega⟩
  have hE : lyG S p (max z p) = lyB S k := by
    have := lyG_end (S := S) (k := k) (p := p) (by rw [hz.out]; exact hp) (by omega) (by omega)
    rwa [hz.out] at this
  have hfin : lyT false N k = [] ++ lyG S p (max z p) := by rw [hT0, hE]
  have hp1 : ¬ 21 < (z : Int) + k := by omega
  have hp2 : ¬ (z : Int) + k < -5 := by omega
  have hp3 : ¬ (z : Int) + k ≤ 0 := by omega
  have hq1 : ¬ 21 < (p : Int) := by omega
  have hq2 : ¬ (p : Int) < -5 := by omega
  have hq3 : ¬ (p : Int) ≤ 0 := by omega
  have hd1 : decide (21 < (p : Int)) = false := decide_eq_false hq1
  have hd2 : decide ((p : Int) < -5) = false := decide_eq_false hq2
  have hd3 : decide ((p : Int) ≤ 0) = false := decide_eq_false hq3
  have hd4 : decide (p = 0) = false := decide_eq_false (by omega)
  obtain ⟨m, hm⟩ : ∃ m, max z p = m := ⟨_, rfl⟩
  rw [hm] at hfin
  rw [hfin]
  clear hE hT0 hfin
  go_enter Tryz.func26, Tryz.ntmps26
  go_wp2_with fail
  refine hr.out.mono ?_
  rintro e w1 ⟨rfl, hb⟩
  have hbw := chain hb0 hb
  replace hL := hL.go hb
  clear hb hr
  have q0 := (hL.get (P := pBlk w.heap.size #[.bool false, .slice A n c, .int .i64 k] 51) (by repeat (first | exact List.mem_cons_self | apply List.mem_cons_of_mem))).cell 0 _ rfl
  have q1 := (hL.get (P := pBlk w.heap.size #[.bool false, .slice A n c, .int .i64 k] 51) (by repeat (first | exact List.mem_cons_self | apply List.mem_cons_of_mem))).cell 1 _ rfl
  have q2 := (hL.get (P := pBlk w.heap.size #[.bool false, .slice A n c, .int .i64 k] 51) (by repeat (first | exact List.mem_cons_self | apply List.mem_cons_of_mem))).cell 2 _ rfl
  go_wp2_with fail
  refine (htx.out _ hbw).mono ?_
  rintro e w2 ⟨u, rfl, hb, hdg⟩
  replace hL := hL.go hb
  replace hdg := Lib.hid (hdg _ (Below.refl _ _))
  clear hb htx q0 q1 q2 hbw
  go_wp2_with fail
  refine hdg.out.mono ?_
  rintro e w3 ⟨rfl, hb⟩
  replace hL := hL.go hb
  clear hb hdg
  have q0 := (hL.get (P := pBlk w.heap.size #[.bool false, .slice A n c, .int .i64 k] 51) (by repeat (first | exact List.mem_cons_self | apply List.mem_cons_of_mem))).cell 0 _ rfl
  have q1 := (hL.get (P := pBlk w.heap.size #[.bool false, .slice A n c, .int .i64 k] 51) (by repeat (first | exact List.mem_cons_self | apply List.mem_cons_of_mem))).cell 1 _ rfl
  have q2 := (hL.get (P := pBlk w.heap.size #[.bool false, .slice A n c, .int .i64 k] 51) (by repeat (first | exact List.mem_cons_self | apply List.mem_cons_of_mem))).cell 2 _ rfl
  go_wp2
  go_loopg [4, 8] m (fun g ov iv wr => ∃ i : Nat, i + g = m ∧ ov = .string (strL ([] ++ lyG S p i)) ∧ iv = .int .i64 i ∧ w3 = wr)
  case atStart => exact ⟨0, by omega, by rw [lyG_start]; rfl, rfl, rfl⟩
  case round =>
    obtain ⟨i, hig, rfl, rfl, rfl⟩ := hrel
    have hol : ([] ++ lyG S p i).length ≤ 5000 := by
      have := lyG_len S p i
      rw [hz.out] at this
      have hg : ([] : List UInt8).length ≤ 1 := by decide
      rw [List.length_append]
      omega
    by_cases hk0 : gk = 0
    · obtain rfl : m = i := by omega
      have hx1 : ¬ (m : Int) < z := by omega
      have hx2 : ¬ (m : Int) < p := by omega
      clear hol
      go_wp2
      go_ret
      exact ⟨rfl, hL.below⟩
    · obtain ⟨o, ho⟩ : ∃ x, [] ++ lyG S p i = x := ⟨_, rfl⟩
      rw [ho] at hol ⊢
      have hzo := strL_size o
      by_cases hiz : i < z
      · have hx1 : (i : Int) < z := by omega
        have hst := lyG_dig (S := S) (p := p) (i := i) (by rw [hz.out]; exact hiz)
        have hsl : ∀ w, (Instr.slice 9 (.string (strL S)) (some (.int .i64 i)) (some (.int .i64 (i + 1))) none).run Tryz.prog w = .ok (.string (strL [S.getD i 0])) w := fun w => slice_one S i (by rw [hz.out]; exact hiz) w
        obtain ⟨x, hx⟩ : ∃ x, S.getD i 0 = x := ⟨_, rfl⟩
        rw [hx] at hst hsl
        have hzx : (strL [x]).size = 1 := strL_size [x]
        by_cases hip : i = p
        · rw [if_pos hip] at hst
          have hb1 : ((i : Int) == (p : Int)) = true := by rw [beq_iff_eq]; omega
          obtain ⟨o1, e1, i1, z1, y1⟩ := lcat_l o [46] ⟨#[46]⟩ rfl 6000 (by simp; omega)
          obtain ⟨o2, e2, i2, z2, y2⟩ := lcat_l o1 [x] (strL [x]) rfl 7000 (by simp; omega)
          have hn : [] ++ lyG S p (i + 1) = o2 := by rw [hst, i2.out, i1.out, ← ho]; simp
          replace hn := Lib.hid hn
          replace hip := Lib.hid hip
          clear hL ho hst hx i1 i2
          go_wp2
          go_roundg (gk - 1)
          case measure => omega
          case rel => exact ⟨i + 1, by omega, by rw [hn.out], by simp, rfl⟩
        · rw [if_neg hip] at hst
          have hb1 : ((i : Int) == (p : Int)) = false := by rw [beq_eq_false_iff_ne]; omega
          obtain ⟨o2, e2, i2, z2, y2⟩ := lcat_l o [x] (strL [x]) rfl 7000 (by simp; omega)
          have hn : [] ++ lyG S p (i + 1) = o2 := by rw [hst, i2.out, ← ho]; simp
          replace hn := Lib.hid hn
          replace hip := Lib.hid hip
          clear hL ho hst hx i2
          go_wp2
          go_roundg (gk - 1)
          case measure => omega
          case rel => exact ⟨i + 1, by omega, by rw [hn.out], by simp, rfl⟩
      · have hx1 : ¬ (i : Int) < z := by omega
        have hx2 : (i : Int) < p := by omega
        have hst := lyG_zero (S := S) (p := p) (i := i) (by rw [hz.out]; omega) (by omega)
        have hb1 : ((i : Int) == (p : Int)) = false := by rw [beq_eq_false_iff_ne]; omega
        obtain ⟨o2, e2, i2, z2, y2⟩ := lcat_l o [48] ⟨#[48]⟩ rfl 7000 (by simp; omega)
        have hn : [] ++ lyG S p (i + 1) = o2 := by rw [hst, i2.out, ← ho]; simp
        replace hn := Lib.hid hn
        clear hL ho hst i2
        go_wp2
        go_roundg (gk - 1)
        case measure => omega
        case rel => exact ⟨i + 1, by omega, by rw [hn.out], by simp, rfl⟩
set_option maxRecDepth 100000 in
set_option maxHeartbeats 2000000 in
theorem rfar1_n {w : World} {v : Value} {N : Nat} (k : Int) (h : IsT w v 128 N) (hd : DRight N k) (h0 : 0 < N) (hc : (21 < ((Lib.decDigits N).length : Int) + k ∨ ((Lib.decDigits N).length : Int) + k < -5) ∧ (Lib.decDigits N).length = 1) :
    Calls Tryz.prog 26 #[.agg #[.bool true, v, .int .i64 k]] w fun e w' => e = .returned (.string (strL (lyT true N k))) ∧ Below w.heap.size w w' := by
  have hb0 := (Below.refl w.heap.size w).alloc (Nat.le_refl _) (.cells #[.bool true, v, .int .i64 k] 51)
  have hr := rright_t true k (h.below hb0)
  rw [decide_eq_true hd] at hr
  obtain ⟨A, c, zs, rfl, -⟩ := id h
  obtain ⟨n, hn⟩ : ∃ n, zs.length = n := ⟨_, rfl⟩
  rw [hn] at hr h hb0 ⊢
  clear hn
  have hzn := isT_posU h h0
  have hL := ((LiveP.start w).put (pT_st _ _ _) h |>.go hb0).put (pBlk_st _ _ _) (pBlk_made w #[.bool true, .slice A n c, .int .i64 k] 51)
  have hnb : ((n : Int) == 0) = false := by rw [beq_eq_false_iff_ne]; omega
  obtain ⟨S, hS⟩ : ∃ S, Lib.decDigits N = S := ⟨_, rfl⟩
  rw [hS] at hc
  obtain ⟨z, hz⟩ : ∃ z, S.length = z := ⟨_, rfl⟩
  rw [hz] at hc
  have hz0 : 0 < z := by rw [← hz, ← hS]; exact List.length_pos_iff.2 (dec_ne N)
  have hzz : z ≤ 2000 := by
    rcases hd with ⟨h1, _⟩ | ⟨_, _, h1, _⟩
    · omega
    · rw [hS, hz] at h1; exact h1
  have hk5 : -5000 ≤ k ∧ k ≤ 5000 := by
    rcases hd with ⟨h1, _⟩ | ⟨_, _, _, h1, h2⟩
    · omega
    · exact ⟨h1, h2⟩
  obtain ⟨hk5, hk6⟩ := hk5
  have hsz : (strL S).size = z := by rw [strL_size, hz]
  have htx := rtext_t (IsT.isN h) (by decide)
  rw [hS] at htx
  replace htx := Lib.hid htx
  replace hr := Lib.hid hr
  have hT0 : lyT true N k = [45] ++ lyB S k := by rw [lyT, lyS_pos h0, hS]; rfl
  replace hS := Lib.hid hS
  replace hz := Lib.hid hz
  replace hd := Lib.hid hd
  clear h hzn
  obtain ⟨hcf, hc1⟩ := hc
  have hsl : ∀ w, (Instr.slice 9 (.string (strL S)) none (some (.int .i64 1)) none).run Tryz.prog w = .ok (.string (strL (S.take 1))) w := fun w => slice_to S 1 (by have := hz.out; omega) w
  obtain ⟨s1, hs1⟩ : ∃ x, S.take 1 = x := ⟨_, rfl⟩
  rw [hs1] at hsl
  have hs1l : s1.length ≤ 1 := by rw [← hs1, List.length_take]; omega
  have hzs := strL_size s1
  obtain ⟨o1, e1, i1, z1, y1⟩ := rcat [45] s1 ⟨#[45]⟩ (strL s1) rfl rfl 3 (by simp; omega)
  obtain ⟨o2, e2, i2, z2, y2⟩ := lcat_l o1 [101] ⟨#[101]⟩ rfl 4 (by simp; omega)
  have hul := numT_lenL ((z : Int) + k - 1) (by omega)
  have hnm := fun w => rnum_any ((z : Int) + k - 1) ⟨by omega, by omega⟩ w
  obtain ⟨u, hu⟩ : ∃ u, numT ((z : Int) + k - 1) = u := ⟨_, rfl⟩
  rw [hu] at hul hnm
  have hzu := strL_size u
  obtain ⟨o3, e3, i3, z3, y3⟩ := lcat_l o2 u (strL u) rfl 30 (by omega)
  have hB : lyB S k = S ++ 101 :: numT ((z : Int) + k - 1) := by
    unfold lyB
    rw [hz.out, if_neg (by omega), if_neg (by omega), if_neg (by omega), if_pos (by omega)]
  have hfin : lyT true N k = o3 := by
    have hS1 : s1 = S := by rw [← hs1, List.take_of_length_le (by have := hz.out; omega)]
    rw [hT0, hB, hu, i3.out, i2.out, i1.out, hS1]
    simp
  rw [hfin]
  replace hnm := Lib.hid hnm
  have hz1 : ¬ (1 : Int) < z := by omega
  replace hc1 := Lib.hid hc1
  clear hfin hB hT0 hu hs1
  rcases hcf with hcf | hcf
  all_goals
    go_enter Tryz.func26, Tryz.ntmps26
    go_wp2_with fail
    refine hr.out.mono ?_
    rintro e w1 ⟨rfl, hb⟩
    have hbw := chain hb0 hb
    replace hL := hL.go hb
    clear hb hr
    have q0 := (hL.get (P := pBlk w.heap.size #[.bool true, .slice A n c, .int .i64 k] 51) (by repeat (first | exact List.mem_cons_self | apply List.mem_cons_of_mem))).cell 0 _ rfl
    have q1 := (hL.get (P := pBlk w.heap.size #[.bool true, .slice A n c, .int .i64 k] 51) (by repeat (first | exact List.mem_cons_self | apply List.mem_cons_of_mem))).cell 1 _ rfl
    have q2 := (hL.get (P := pBlk w.heap.size #[.bool true, .slice A n c, .int .i64 k] 51) (by repeat (first | exact List.mem_cons_self | apply List.mem_cons_of_mem))).cell 2 _ rfl
    go_wp2_with fail
    refine (htx.out _ hbw).mono ?_
    rintro e w2 ⟨u, rfl, hb, hdg⟩
    replace hL := hL.go hb
    replace hdg := Lib.hid (hdg _ (Below.refl _ _))
    clear hb htx q0 q1 q2 hbw
    go_wp2_with fail
    refine hdg.out.mono ?_
    rintro e w3 ⟨rfl, hb⟩
    replace hL := hL.go hb
    clear hb hdg
    have q0 := (hL.get (P := pBlk w.heap.size #[.bool true, .slice A n c, .int .i64 k] 51) (by repeat (first | exact List.mem_cons_self | apply List.mem_cons_of_mem))).cell 0 _ rfl
    have q1 := (hL.get (P := pBlk w.heap.size #[.bool true, .slice A n c, .int .i64 k] 51) (by repeat (first | exact List.mem_cons_self | apply List.mem_cons_of_mem))).cell 1 _ rfl
    have q2 := (hL.get (P := pBlk w.heap.size #[.bool true, .slice A n c, .int .i64 k] 51) (by repeat (first | exact List.mem_cons_self | apply List.mem_cons_of_mem))).cell 2 _ rfl
    go_wp2_with fail
    refine (hnm.out _).mono ?_
    rintro e w4 ⟨rfl, hb⟩
    replace hL := hL.go hb
    go_wp2
    go_ret
    exact ⟨rfl, hL.below⟩
set_option maxRecDepth 100000 in
set_option maxHeartbeats 2000000 in
theorem rfar2_n {w : World} {v : Value} {N : Nat} (k : Int) (h : IsT w v 128 N) (hd : DRight N k) (h0 : 0 < N) (hc : (21 < ((Lib.decDigits N).length : Int) + k ∨ ((Lib.decDigits N).length : Int) + k < -5) ∧ 1 < (Lib.decDigits N).length) :
    Calls Tryz.prog 26 #[.agg #[.bool true, v, .int .i64 k]] w fun e w' => e = .returned (.string (strL (lyT true N k))) ∧ Below w.heap.size w w' := by
  have hb0 := (Below.refl w.heap.size w).alloc (Nat.le_refl _) (.cells #[.bool true, v, .int .i64 k] 51)
  have hr := rright_t true k (h.below hb0)
  rw [decide_eq_true hd] at hr
  obtain ⟨A, c, zs, rfl, -⟩ := id h
  obtain ⟨n, hn⟩ : ∃ n, zs.length = n := ⟨_, rfl⟩
  rw [hn] at hr h hb0 ⊢
  clear hn
  have hzn := isT_posU h h0
  have hL := ((LiveP.start w).put (pT_st _ _ _) h |>.go hb0).put (pBlk_st _ _ _) (pBlk_made w #[.bool true, .slice A n c, .int .i64 k] 51)
  have hnb : ((n : Int) == 0) = false := by rw [beq_eq_false_iff_ne]; omega
  obtain ⟨S, hS⟩ : ∃ S, Lib.decDigits N = S := ⟨_, rfl⟩
  rw [hS] at hc
  obtain ⟨z, hz⟩ : ∃ z, S.length = z := ⟨_, rfl⟩
  rw [hz] at hc
  have hz0 : 0 < z := by rw [← hz, ← hS]; exact List.length_pos_iff.2 (dec_ne N)
  have hzz : z ≤ 2000 := by
    rcases hd with ⟨h1, _⟩ | ⟨_, _, h1, _⟩
    · omega
    · rw [hS, hz] at h1; exact h1
  have hk5 : -5000 ≤ k ∧ k ≤ 5000 := by
    rcases hd with ⟨h1, _⟩ | ⟨_, _, _, h1, h2⟩
    · omega
    · exact ⟨h1, h2⟩
  obtain ⟨hk5, hk6⟩ := hk5
  have hsz : (strL S).size = z := by rw [strL_size, hz]
  have htx := rtext_t (IsT.isN h) (by decide)
  rw [hS] at htx
  replace htx := Lib.hid htx
  replace hr := Lib.hid hr
  have hT0 : lyT true N k = [45] ++ lyB S k := by rw [lyT, lyS_pos h0, hS]; rfl
  replace hS := Lib.hid hS
  replace hz := Lib.hid hz
  replace hd := Lib.hid hd
  clear h hzn
  obtain ⟨hcf, hc1⟩ := hc
  have hsl : ∀ w, (Instr.slice 9 (.string (strL S)) none (some (.int .i64 1)) none).run Tryz.prog w = .ok (.string (strL (S.take 1))) w := fun w => slice_to S 1 (by have := hz.out; omega) w
  have hsf : ∀ w, (Instr.slice 9 (.string (strL S)) (some (.int .i64 1)) none none).run Tryz.prog w = .ok (.string (strL (S.drop 1))) w := fun w => slice_from S 1 (by have := hz.out; omega) w
  obtain ⟨s1, hs1⟩ : ∃ x, S.take 1 = x := ⟨_, rfl⟩
  obtain ⟨s2, hs2⟩ : ∃ x, S.drop 1 = x := ⟨_, rfl⟩
  rw [hs1] at hsl
  rw [hs2] at hsf
  have hs1l : s1.length ≤ 1 := by rw [← hs1, List.length_take]; omega
  have hs2l : s2.length ≤ 2000 := by rw [← hs2, List.length_drop]; have := hz.out; omega
  have hzs := strL_size s1
  have hzt := strL_size s2
  obtain ⟨o1, e1, i1, z1, y1⟩ := rcat [45] s1 ⟨#[45]⟩ (strL s1) rfl rfl 3 (by simp; omega)
  obtain ⟨o2, e2, i2, z2, y2⟩ := lcat_l o1 [46] ⟨#[46]⟩ rfl 4 (by simp; omega)
  obtain ⟨o3, e3, i3, z3, y3⟩ := lcat_l o2 s2 (strL s2) rfl 2010 (by omega)
  obtain ⟨o4, e4, i4, z4, y4⟩ := lcat_l o3 [101] ⟨#[101]⟩ rfl 2020 (by simp; omega)
  have hul := numT_lenL ((z : Int) + k - 1) (by omega)
  have hnm := fun w => rnum_any ((z : Int) + k - 1) ⟨by omega, by omega⟩ w
  obtain ⟨u, hu⟩ : ∃ u, numT ((z : Int) + k - 1) = u := ⟨_, rfl⟩
  rw [hu] at hul hnm
  have hzu := strL_size u
  obtain ⟨o5, e5, i5, z5, y5⟩ := lcat_l o4 u (strL u) rfl 2060 (by omega)
  have hB : lyB S k = S.take 1 ++ 46 :: (S.drop 1 ++ 101 :: numT ((z : Int) + k - 1)) := by
    unfold lyB
    rw [hz.out, if_neg (by omega), if_neg (by omega), if_neg (by omega), if_neg (by omega)]
  have hfin : lyT true N k = o5 := by
    rw [hT0, hB, hu, i5.out, i4.out, i3.out, i2.out, i1.out, hs1, hs2]
    simp
  rw [hfin]
  replace hnm := Lib.hid hnm
  have hz1 : (1 : Int) < z := by omega
  clear hfin hB hT0 hu hs1 hs2
  rcases hcf with hcf | hcf
  all_goals
    go_enter Tryz.func26, Tryz.ntmps26
    go_wp2_with fail
    refine hr.out.mono ?_
    rintro e w1 ⟨rfl, hb⟩
    have hbw := chain hb0 hb
    replace hL := hL.go hb
    clear hb hr
    have q0 := (hL.get (P := pBlk w.heap.size #[.bool true, .slice A n c, .int .i64 k] 51) (by repeat (first | exact List.mem_cons_self | apply List.mem_cons_of_mem))).cell 0 _ rfl
    have q1 := (hL.get (P := pBlk w.heap.size #[.bool true, .slice A n c, .int .i64 k] 51) (by repeat (first | exact List.mem_cons_self | apply List.mem_cons_of_mem))).cell 1 _ rfl
    have q2 := (hL.get (P := pBlk w.heap.size #[.bool true, .slice A n c, .int .i64 k] 51) (by repeat (first | exact List.mem_cons_self | apply List.mem_cons_of_mem))).cell 2 _ rfl
    go_wp2_with fail
    refine (htx.out _ hbw).mono ?_
    rintro e w2 ⟨u, rfl, hb, hdg⟩
    replace hL := hL.go hb
    replace hdg := Lib.hid (hdg _ (Below.refl _ _))
    clear hb htx q0 q1 q2 hbw
    go_wp2_with fail
    refine hdg.out.mono ?_
    rintro e w3 ⟨rfl, hb⟩
    replace hL := hL.go hb
    clear hb hdg
    have q0 := (hL.get (P := pBlk w.heap.size #[.bool true, .slice A n c, .int .i64 k] 51) (by repeat (first | exact List.mem_cons_self | apply List.mem_cons_of_mem))).cell 0 _ rfl
    have q1 := (hL.get (P := pBlk w.heap.size #[.bool true, .slice A n c, .int .i64 k] 51) (by repeat (first | exact List.mem_cons_self | apply List.mem_cons_of_mem))).cell 1 _ rfl
    have q2 := (hL.get (P := pBlk w.heap.size #[.bool true, .slice A n c, .int .i64 k] 51) (by repeat (first | exact List.mem_cons_self | apply List.mem_cons_of_mem))).cell 2 _ rfl
    go_wp2_with fail
    refine (hnm.out _).mono ?_
    rintro e w4 ⟨rfl, hb⟩
    replace hL := hL.go hb
    go_wp2
    go_ret
    exact ⟨rfl, hL.below⟩
set_option maxRecDepth 100000 in
set_option maxHeartbeats 2000000 in
theorem rmid_n {w : World} {v : Value} {N : Nat} (k : Int) (h : IsT w v 128 N) (hd : DRight N k) (h0 : 0 < N) (hc : -5 ≤ ((Lib.decDigits N).length : Int) + k ∧ ((Lib.decDigits N).length : Int) + k ≤ 0) :
    Calls Tryz.prog 26 #[.agg #[.bool true, v, .int .i64 k]] w fun e w' => e = .returned (.string (strL (lyT true N k))) ∧ Below w.heap.size w w' := by
  have hb0 := (Below.refl w.heap.size w).alloc (Nat.le_refl _) (.cells #[.bool true, v, .int .i64 k] 51)
  have hr := rright_t true k (h.below hb0)
  rw [decide_eq_true hd] at hr
  obtain ⟨A, c, zs, rfl, -⟩ := id h
  obtain ⟨n, hn⟩ : ∃ n, zs.length = n := ⟨_, rfl⟩
  rw [hn] at hr h hb0 ⊢
  clear hn
  have hzn := isT_posU h h0
  have hL := ((LiveP.start w).put (pT_st _ _ _) h |>.go hb0).put (pBlk_st _ _ _) (pBlk_made w #[.bool true, .slice A n c, .int .i64 k] 51)
  have hnb : ((n : Int) == 0) = false := by rw [beq_eq_false_iff_ne]; omega
  obtain ⟨S, hS⟩ : ∃ S, Lib.decDigits N = S := ⟨_, rfl⟩
  rw [hS] at hc
  obtain ⟨z, hz⟩ : ∃ z, S.length = z := ⟨_, rfl⟩
  rw [hz] at hc
  have hz0 : 0 < z := by rw [← hz, ← hS]; exact List.length_pos_iff.2 (dec_ne N)
  have hzz : z ≤ 2000 := by
    rcases hd with ⟨h1, _⟩ | ⟨_, _, h1, _⟩
    · omega
    · rw [hS, hz] at h1; exact h1
  have hk5 : -5000 ≤ k ∧ k ≤ 5000 := by
    rcases hd with ⟨h1, _⟩ | ⟨_, _, _, h1, h2⟩
    · omega
    · exact ⟨h1, h2⟩
  obtain ⟨hk5, hk6⟩ := hk5
  have hsz : (strL S).size = z := by rw [strL_size, hz]
  have htx := rtext_t (IsT.isN h) (by decide)
  rw [hS] at htx
  replace htx := Lib.hid htx
  replace hr := Lib.hid hr
  have hT0 : lyT true N k = [45] ++ lyB S k := by rw [lyT, lyS_pos h0, hS]; rfl
  replace hS := Lib.hid hS
  replace hz := Lib.hid hz
  replace hd := Lib.hid hd
  clear h hzn
  obtain ⟨hc1, hc2⟩ := hc
  obtain ⟨m, hm⟩ : ∃ m : Nat, -((z : Int) + k) = m := ⟨(-((z : Int) + k)).toNat, by omega⟩
  have hB : lyB S k = 48 :: 46 :: (List.replicate m 48 ++ S) := by
    unfold lyB
    rw [hz.out, if_neg (by omega), if_neg (by omega), if_pos ⟨by omega, by omega⟩, hm, Int.toNat_natCast]
  obtain ⟨o1, e1, i1, z1, y1⟩ := rcat [45] [48, 46] ⟨#[45]⟩ ⟨#[48, 46]⟩ rfl rfl 3 (by decide)
  have hfin : ∀ Z, Z = List.replicate m 48 → lyT true N k = o1 ++ Z ++ S := by
    intro Z hZ
    rw [hT0, hB, i1.out, hZ]
    simp
  replace hfin := Lib.hid hfin
  have hp1 : ¬ 21 < (z : Int) + k := by omega
  have hp2 : ¬ (z : Int) + k < -5 := by omega
  clear hB hT0
  go_enter Tryz.func26, Tryz.ntmps26
  go_wp2_with fail
  refine hr.out.mono ?_
  rintro e w1 ⟨rfl, hb⟩
  have hbw := chain hb0 hb
  replace hL := hL.go hb
  clear hb hr
  have q0 := (hL.get (P := pBlk w.heap.size #[.bool true, .slice A n c, .int .i64 k] 51) (by repeat (first | exact List.mem_cons_self | apply List.mem_cons_of_mem))).cell 0 _ rfl
  have q1 := (hL.get (P := pBlk w.heap.size #[.bool true, .slice A n c, .int .i64 k] 51) (by repeat (first | exact List.mem_cons_self | apply List.mem_cons_of_mem))).cell 1 _ rfl
  have q2 := (hL.get (P := pBlk w.heap.size #[.bool true, .slice A n c, .int .i64 k] 51) (by repeat (first | exact List.mem_cons_self | apply List.mem_cons_of_mem))).cell 2 _ rfl
  go_wp2_with fail
  refine (htx.out _ hbw).mono ?_
  rintro e w2 ⟨u, rfl, hb, hdg⟩
  replace hL := hL.go hb
  replace hdg := Lib.hid (hdg _ (Below.refl _ _))
  clear hb htx q0 q1 q2 hbw
  go_wp2_with fail
  refine hdg.out.mono ?_
  rintro e w3 ⟨rfl, hb⟩
  replace hL := hL.go hb
  clear hb hdg
  have q0 := (hL.get (P := pBlk w.heap.size #[.bool true, .slice A n c, .int .i64 k] 51) (by repeat (first | exact List.mem_cons_self | apply List.mem_cons_of_mem))).cell 0 _ rfl
  have q1 := (hL.get (P := pBlk w.heap.size #[.bool true, .slice A n c, .int .i64 k] 51) (by repeat (first | exact List.mem_cons_self | apply List.mem_cons_of_mem))).cell 1 _ rfl
  have q2 := (hL.get (P := pBlk w.heap.size #[.bool true, .slice A n c, .int .i64 k] 51) (by repeat (first | exact List.mem_cons_self | apply List.mem_cons_of_mem))).cell 2 _ rfl
  go_wp2
  go_loopg [4, 7] m (fun g ov iv wr => ∃ i : Nat, i + g = m ∧ ov = .string (strL (o1 ++ List.replicate i 48)) ∧ iv = .int .i64 ((z : Int) + k + i) ∧ w3 = wr)
  case atStart => exact ⟨0, by omega, by simp, by simp, rfl⟩
  case round =>
    obtain ⟨i, hig, rfl, rfl, rfl⟩ := hrel
    by_cases hk0 : gk = 0
    · obtain rfl : m = i := by omega
      have hx : ¬ (z : Int) + k + (m : Int) < 0 := by omega
      have hf := hfin.out _ rfl
      obtain ⟨o2, ho2⟩ : ∃ x, o1 ++ List.replicate m 48 = x := ⟨_, rfl⟩
      have hol : o2.length ≤ 20 := by rw [← ho2, List.length_append, List.length_replicate]; omega
      rw [ho2] at hf ⊢
      have hzo := strL_size o2
      obtain ⟨o3, e3, i3, z3, y3⟩ := lcat_l o2 S (strL S) rfl 2030 (by have := hz.out; omega)
      rw [← i3.out] at hf
      replace hf := Lib.hid hf
      clear ho2
      go_wp2
      go_ret
      refine ⟨?_, hL.below⟩
      rw [hf.out]
      rfl
    · have hx : (z : Int) + k + (i : Int) < 0 := by omega
      obtain ⟨o2, ho2⟩ : ∃ x, o1 ++ List.replicate i 48 = x := ⟨_, rfl⟩
      have hol : o2.length ≤ 20 := by rw [← ho2, List.length_append, List.length_replicate]; omega
      rw [ho2]
      have hzo := strL_size o2
      obtain ⟨o3, e3, i3, z3, y3⟩ := lcat_l o2 [48] ⟨#[48]⟩ rfl 30 (by simp; omega)
      have hn : o3 = o1 ++ List.replicate (i + 1) 48 := by rw [i3.out, ← ho2, List.replicate_succ', List.append_assoc]
      replace hn := Lib.hid hn
      clear hL ho2 i3
      go_wp2
      go_roundg (gk - 1)
      case measure => omega
      case rel => exact ⟨i + 1, by omega, by rw [hn.out], by first | (congr 1; omega) | (simp; omega), rfl⟩
set_option maxRecDepth 100000 in
set_option maxHeartbeats 2000000 in
theorem rwide_n {w : World} {v : Value} {N : Nat} (k : Int) (h : IsT w v 128 N) (hd : DRight N k) (h0 : 0 < N) (hc : 1 ≤ ((Lib.decDigits N).length : Int) + k ∧ ((Lib.decDigits N).length : Int) + k ≤ 21) :
    Calls Tryz.prog 26 #[.agg #[.bool true, v, .int .i64 k]] w fun e w' => e = .returned (.string (strL (lyT true N k))) ∧ Below w.heap.size w w' := by
  have hb0 := (Below.refl w.heap.size w).alloc (Nat.le_refl _) (.cells #[.bool true, v, .int .i64 k] 51)
  have hr := rright_t true k (h.below hb0)
  rw [decide_eq_true hd] at hr
  obtain ⟨A, c, zs, rfl, -⟩ := id h
  obtain ⟨n, hn⟩ : ∃ n, zs.length = n := ⟨_, rfl⟩
  rw [hn] at hr h hb0 ⊢
  clear hn
  have hzn := isT_posU h h0
  have hL := ((LiveP.start w).put (pT_st _ _ _) h |>.go hb0).put (pBlk_st _ _ _) (pBlk_made w #[.bool true, .slice A n c, .int .i64 k] 51)
  have hnb : ((n : Int) == 0) = false := by rw [beq_eq_false_iff_ne]; omega
  obtain ⟨S, hS⟩ : ∃ S, Lib.decDigits N = S := ⟨_, rfl⟩
  rw [hS] at hc
  obtain ⟨z, hz⟩ : ∃ z, S.length = z := ⟨_, rfl⟩
  rw [hz] at hc
  have hz0 : 0 < z := by rw [← hz, ← hS]; exact List.length_pos_iff.2 (dec_ne N)
  have hzz : z ≤ 2000 := by
    rcases hd with ⟨h1, _⟩ | ⟨_, _, h1, _⟩
    · omega
    · rw [hS, hz] at h1; exact h1
  have hk5 : -5000 ≤ k ∧ k ≤ 5000 := by
    rcases hd with ⟨h1, _⟩ | ⟨_, _, _, h1, h2⟩
    · omega
    · exact ⟨h1, h2⟩
  obtain ⟨hk5, hk6⟩ := hk5
  have hsz : (strL S).size = z := by rw [strL_size, hz]
  have htx := rtext_t (IsT.isN h) (by decide)
  rw [hS] at htx
  replace htx := Lib.hid htx
  replace hr := Lib.hid hr
  have hT0 : lyT true N k = [45] ++ lyB S k := by rw [lyT, lyS_pos h0, hS]; rfl
  replace hS := Lib.hid hS
  replace hz := Lib.hid hz
  replace hd := Lib.hid hd
  clear h hzn
  obtain ⟨hc1, hc2⟩ := hc
  obtain ⟨p, hp⟩ : ∃ p : Nat, (z : Int) + k = p := ⟨((z : Int) + k).toNat, by omega⟩
  have hE : lyG S p (max z p) = lyB S k := by
    have := lyG_end (S := S) (k := k) (p := p) (by rw [hz.out]; exact hp) (by omega) (by omega)
    rwa [hz.out] at this
  have hfin : lyT true N k = [45] ++ lyG S p (max z p) := by rw [hT0, hE]
  have hp1 : ¬ 21 < (z : Int) + k := by omega
  have hp2 : ¬ (z : Int) + k < -5 := by omega
  have hp3 : ¬ (z : Int) + k ≤ 0 := by omega
  have hq1 : ¬ 21 < (p : Int) := by omega
  have hq2 : ¬ (p : Int) < -5 := by omega
  have hq3 : ¬ (p : Int) ≤ 0 := by omega
  have hd1 : decide (21 < (p : Int)) = false := decide_eq_false hq1
  have hd2 : decide ((p : Int) < -5) = false := decide_eq_false hq2
  have hd3 : decide ((p : Int) ≤ 0) = false := decide_eq_false hq3
  have hd4 : decide (p = 0) = false := decide_eq_false (by omega)
  obtain ⟨m, hm⟩ : ∃ m, max z p = m := ⟨_, rfl⟩
  rw [hm] at hfin
  rw [hfin]
  clear hE hT0 hfin
  go_enter Tryz.func26, Tryz.ntmps26
  go_wp2_with fail
  refine hr.out.mono ?_
  rintro e w1 ⟨rfl, hb⟩
  have hbw := chain hb0 hb
  replace hL := hL.go hb
  clear hb hr
  have q0 := (hL.get (P := pBlk w.heap.size #[.bool true, .slice A n c, .int .i64 k] 51) (by repeat (first | exact List.mem_cons_self | apply List.mem_cons_of_mem))).cell 0 _ rfl
  have q1 := (hL.get (P := pBlk w.heap.size #[.bool true, .slice A n c, .int .i64 k] 51) (by repeat (first | exact List.mem_cons_self | apply List.mem_cons_of_mem))).cell 1 _ rfl
  have q2 := (hL.get (P := pBlk w.heap.size #[.bool true, .slice A n c, .int .i64 k] 51) (by repeat (first | exact List.mem_cons_self | apply List.mem_cons_of_mem))).cell 2 _ rfl
  go_wp2_with fail
  refine (htx.out _ hbw).mono ?_
  rintro e w2 ⟨u, rfl, hb, hdg⟩
  replace hL := hL.go hb
  replace hdg := Lib.hid (hdg _ (Below.refl _ _))
  clear hb htx q0 q1 q2 hbw
  go_wp2_with fail
  refine hdg.out.mono ?_
  rintro e w3 ⟨rfl, hb⟩
  replace hL := hL.go hb
  clear hb hdg
  have q0 := (hL.get (P := pBlk w.heap.size #[.bool true, .slice A n c, .int .i64 k] 51) (by repeat (first | exact List.mem_cons_self | apply List.mem_cons_of_mem))).cell 0 _ rfl
  have q1 := (hL.get (P := pBlk w.heap.size #[.bool true, .slice A n c, .int .i64 k] 51) (by repeat (first | exact List.mem_cons_self | apply List.mem_cons_of_mem))).cell 1 _ rfl
  have q2 := (hL.get (P := pBlk w.heap.size #[.bool true, .slice A n c, .int .i64 k] 51) (by repeat (first | exact List.mem_cons_self | apply List.mem_cons_of_mem))).cell 2 _ rfl
  go_wp2
  go_loopg [4, 8] m (fun g ov iv wr => ∃ i : Nat, i + g = m ∧ ov = .string (strL ([45] ++ lyG S p i)) ∧ iv = .int .i64 i ∧ w3 = wr)
  case atStart => exact ⟨0, by omega, by rw [lyG_start]; rfl, rfl, rfl⟩
  case round =>
    obtain ⟨i, hig, rfl, rfl, rfl⟩ := hrel
    have hol : ([45] ++ lyG S p i).length ≤ 5000 := by
      have := lyG_len S p i
      rw [hz.out] at this
      have hg : ([45] : List UInt8).length ≤ 1 := by decide
      rw [List.length_append]
      omega
    by_cases hk0 : gk = 0
    · obtain rfl : m = i := by omega
      have hx1 : ¬ (m : Int) < z := by omega
      have hx2 : ¬ (m : Int) < p := by omega
      clear hol
      go_wp2
      go_ret
      exact ⟨rfl, hL.below⟩
    · obtain ⟨o, ho⟩ : ∃ x, [45] ++ lyG S p i = x := ⟨_, rfl⟩
      rw [ho] at hol ⊢
      have hzo := strL_size o
      by_cases hiz : i < z
      · have hx1 : (i : Int) < z := by omega
        have hst := lyG_dig (S := S) (p := p) (i := i) (by rw [hz.out]; exact hiz)
        have hsl : ∀ w, (Instr.slice 9 (.string (strL S)) (some (.int .i64 i)) (some (.int .i64 (i + 1))) none).run Tryz.prog w = .ok (.string (strL [S.getD i 0])) w := fun w => slice_one S i (by rw [hz.out]; exact hiz) w
        obtain ⟨x, hx⟩ : ∃ x, S.getD i 0 = x := ⟨_, rfl⟩
        rw [hx] at hst hsl
        have hzx : (strL [x]).size = 1 := strL_size [x]
        by_cases hip : i = p
        · rw [if_pos hip] at hst
          have hb1 : ((i : Int) == (p : Int)) = true := by rw [beq_iff_eq]; omega
          obtain ⟨o1, e1, i1, z1, y1⟩ := lcat_l o [46] ⟨#[46]⟩ rfl 6000 (by simp; omega)
          obtain ⟨o2, e2, i2, z2, y2⟩ := lcat_l o1 [x] (strL [x]) rfl 7000 (by simp; omega)
          have hn : [45] ++ lyG S p (i + 1) = o2 := by rw [hst, i2.out, i1.out, ← ho]; simp
          replace hn := Lib.hid hn
          replace hip := Lib.hid hip
          clear hL ho hst hx i1 i2
          go_wp2
          go_roundg (gk - 1)
          case measure => omega
          case rel => exact ⟨i + 1, by omega, by rw [hn.out], by simp, rfl⟩
        · rw [if_neg hip] at hst
          have hb1 : ((i : Int) == (p : Int)) = false := by rw [beq_eq_false_iff_ne]; omega
          obtain ⟨o2, e2, i2, z2, y2⟩ := lcat_l o [x] (strL [x]) rfl 7000 (by simp; omega)
          have hn : [45] ++ lyG S p (i + 1) = o2 := by rw [hst, i2.out, ← ho]; simp
          replace hn := Lib.hid hn
          replace hip := Lib.hid hip
          clear hL ho hst hx i2
          go_wp2
          go_roundg (gk - 1)
          case measure => omega
          case rel => exact ⟨i + 1, by omega, by rw [hn.out], by simp, rfl⟩
      · have hx1 : ¬ (i : Int) < z := by omega
        have hx2 : (i : Int) < p := by omega
        have hst := lyG_zero (S := S) (p := p) (i := i) (by rw [hz.out]; omega) (by omega)
        have hb1 : ((i : Int) == (p : Int)) = false := by rw [beq_eq_false_iff_ne]; omega
        obtain ⟨o2, e2, i2, z2, y2⟩ := lcat_l o [48] ⟨#[48]⟩ rfl 7000 (by simp; omega)
        have hn : [45] ++ lyG S p (i + 1) = o2 := by rw [hst, i2.out, ← ho]; simp
        replace hn := Lib.hid hn
        clear hL ho hst i2
        go_wp2
        go_roundg (gk - 1)
        case measure => omega
        case rel => exact ⟨i + 1, by omega, by rw [hn.out], by simp, rfl⟩
/-- The document's Layout, of digits that are not right. -/
theorem rlayout_un {w : World} {A : Option Addr} {n c : Nat} (neg : Bool) (k : Int) (hr : ∀ W, Below w.heap.size w W → Calls Tryz.prog 75 #[.agg #[.bool neg, .slice A n c, .int .i64 k]] W fun e w' => e = .returned (.bool false) ∧ Below W.heap.size W w') :
    Calls Tryz.prog 26 #[.agg #[.bool neg, .slice A n c, .int .i64 k]] w fun e w' => e = .returned (.string (strL [])) ∧ Below w.heap.size w w' := by
  have hb0 := (Below.refl w.heap.size w).alloc (Nat.le_refl _) (.cells #[.bool neg, .slice A n c, .int .i64 k] 51)
  replace hr := Lib.hid (hr _ hb0)
  go_enter Tryz.func26, Tryz.ntmps26
  go_wp2_with fail
  refine hr.out.mono ?_
  rintro e w1 ⟨rfl, hb1⟩
  go_wp2
  go_ret
  exact ⟨rfl, chain hb0 hb1⟩
set_option maxRecDepth 100000 in
set_option maxHeartbeats 1000000 in
theorem rzero_p {w : World} {v : Value} (h : IsT w v 128 0) :
    Calls Tryz.prog 26 #[.agg #[.bool false, v, .int .i64 0]] w fun e w' => e = .returned (.string (strL (lyT false 0 0))) ∧ Below w.heap.size w w' := by
  have hb0 := (Below.refl w.heap.size w).alloc (Nat.le_refl _) (.cells #[.bool false, v, .int .i64 0] 51)
  have hr := rright_t false 0 (h.below hb0)
  rw [decide_eq_true (show DRight 0 0 from .inl ⟨rfl, rfl⟩)] at hr
  obtain ⟨A, c, rfl⟩ := isT_zeroL h
  have hL := (LiveP.start w |>.go hb0).put (pBlk_st _ _ _) (pBlk_made w #[.bool false, .slice A 0 c, .int .i64 0] 51)
  replace hr := Lib.hid hr
  have ht : lyT false 0 0 = [] ++ [48] := by decide +kernel
  rw [ht]
  clear hb0 h ht
  go_enter Tryz.func26, Tryz.ntmps26
  go_wp2_with fail
  refine hr.out.mono ?_
  rintro e w1 ⟨rfl, hb⟩
  replace hL := hL.go hb
  clear hb hr
  have q0 := (hL.get (P := pBlk w.heap.size #[.bool false, .slice A 0 c, .int .i64 0] 51) (by repeat (first | exact List.mem_cons_self | apply List.mem_cons_of_mem))).cell 0 _ rfl
  have q1 := (hL.get (P := pBlk w.heap.size #[.bool false, .slice A 0 c, .int .i64 0] 51) (by repeat (first | exact List.mem_cons_self | apply List.mem_cons_of_mem))).cell 1 _ rfl
  have q2 := (hL.get (P := pBlk w.heap.size #[.bool false, .slice A 0 c, .int .i64 0] 51) (by repeat (first | exact List.mem_cons_self | apply List.mem_cons_of_mem))).cell 2 _ rfl
  go_wp2
  go_ret
  exact ⟨rfl, hL.below⟩
set_option maxRecDepth 100000 in
set_option maxHeartbeats 1000000 in
theorem rzero_n {w : World} {v : Value} (h : IsT w v 128 0) :
    Calls Tryz.prog 26 #[.agg #[.bool true, v, .int .i64 0]] w fun e w' => e = .returned (.string (strL (lyT true 0 0))) ∧ Below w.heap.size w w' := by
  have hb0 := (Below.refl w.heap.size w).alloc (Nat.le_refl _) (.cells #[.bool true, v, .int .i64 0] 51)
  have hr := rright_t true 0 (h.below hb0)
  rw [decide_eq_true (show DRight 0 0 from .inl ⟨rfl, rfl⟩)] at hr
  obtain ⟨A, c, rfl⟩ := isT_zeroL h
  have hL := (LiveP.start w |>.go hb0).put (pBlk_st _ _ _) (pBlk_made w #[.bool true, .slice A 0 c, .int .i64 0] 51)
  replace hr := Lib.hid hr
  have ht : lyT true 0 0 = [45] ++ [48] := by decide +kernel
  rw [ht]
  clear hb0 h ht
  go_enter Tryz.func26, Tryz.ntmps26
  go_wp2_with fail
  refine hr.out.mono ?_
  rintro e w1 ⟨rfl, hb⟩
  replace hL := hL.go hb
  clear hb hr
  have q0 := (hL.get (P := pBlk w.heap.size #[.bool true, .slice A 0 c, .int .i64 0] 51) (by repeat (first | exact List.mem_cons_self | apply List.mem_cons_of_mem))).cell 0 _ rfl
  have q1 := (hL.get (P := pBlk w.heap.size #[.bool true, .slice A 0 c, .int .i64 0] 51) (by repeat (first | exact List.mem_cons_self | apply List.mem_cons_of_mem))).cell 1 _ rfl
  have q2 := (hL.get (P := pBlk w.heap.size #[.bool true, .slice A 0 c, .int .i64 0] 51) (by repeat (first | exact List.mem_cons_self | apply List.mem_cons_of_mem))).cell 2 _ rfl
  go_wp2
  go_ret
  exact ⟨rfl, hL.below⟩
theorem rlayout_any {w : World} {v : Value} {N : Nat} (neg : Bool) (k : Int) (h : IsT w v 128 N) :
    Calls Tryz.prog 26 #[.agg #[.bool neg, v, .int .i64 k]] w fun e w' => e = .returned (.string (strL (lyR neg N k))) ∧ Below w.heap.size w w' := by
  by_cases hd : DRight N k
  · have hr : lyR neg N k = lyT neg N k := by unfold lyR; rw [if_pos hd]
    rw [hr]
    rcases Nat.eq_zero_or_pos N with h0 | h0
    · subst h0
      obtain rfl : k = 0 := by
        rcases hd with ⟨_, h⟩ | ⟨h, _⟩
        · exact h
        · omega
      cases neg
      · exact rzero_p h
      · exact rzero_n h
    · obtain ⟨z, hz⟩ : ∃ z, (Lib.decDigits N).length = z := ⟨_, rfl⟩
      have hz0 : 0 < z := by rw [← hz]; exact List.length_pos_iff.2 (dec_ne N)
      by_cases c1 : 21 < (z : Int) + k ∨ (z : Int) + k < -5
      · by_cases c2 : z = 1
        · cases neg
          · exact rfar1_p k h hd h0 (by rw [hz]; exact ⟨c1, c2⟩)
          · exact rfar1_n k h hd h0 (by rw [hz]; exact ⟨c1, c2⟩)
        · cases neg
          · exact rfar2_p k h hd h0 (by rw [hz]; exact ⟨c1, by omega⟩)
          · exact rfar2_n k h hd h0 (by rw [hz]; exact ⟨c1, by omega⟩)
      · by_cases c3 : (z : Int) + k ≤ 0
        · cases neg
          · exact rmid_p k h hd h0 (by rw [hz]; exact ⟨by omega, c3⟩)
          · exact rmid_n k h hd h0 (by rw [hz]; exact ⟨by omega, c3⟩)
        · cases neg
          · exact rwide_p k h hd h0 (by rw [hz]; exact ⟨by omega, by omega⟩)
          · exact rwide_n k h hd h0 (by rw [hz]; exact ⟨by omega, by omega⟩)
  · have hr : lyR neg N k = [] := by unfold lyR; rw [if_neg hd]
    rw [hr]
    obtain ⟨A, c, zs, rfl, -⟩ := id h
    refine rlayout_un neg k fun W hb => ?_
    have := rright_t neg k (h.below hb)
    rw [decide_eq_false hd] at this
    exact this
end Go.Proofs.YtncfbleeidjflaaGreatDoor
