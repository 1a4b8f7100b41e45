/- The law ScanFar, walked. Condition: the table of powers reads as it is laid. -/
import Derived.Test.YtlpcfbilembilaaDoorScanF
namespace Go.Proofs.YtlpcfbilembilaaDoor
open Go.RowKit Go.Cal
/-- So many nines are worth much. -/
theorem nines (n : Nat) : numV (List.replicate n 57) + 1 = 10 ^ n := by
  induction n with
  | zero => rfl
  | succ n ih =>
    rw [List.replicate_succ', numV_snoc, Nat.pow_succ]
    have : (57 : UInt8).toNat - 48 = 9 := rfl
    rw [this]
    omega
theorem nines_dig (n : Nat) : ∀ c ∈ List.replicate n (57 : UInt8), isDig c = true := fun c hc => by
  rw [List.eq_of_mem_replicate hc]; decide
theorem nines_far (n : Nat) (h : 4 ≤ n) : 9999 ≤ min (numV (List.replicate n 57)) 1125899906842624 := by
  have h1 := nines n
  have h2 : 10 ^ 4 ≤ 10 ^ n := Nat.pow_le_pow_right (by omega) h
  omega
/-- The exponent's text. -/
def farE (less : Bool) (n : Nat) : List UInt8 := (if less then [101, 45] else [101]) ++ List.replicate n 57
theorem farE_ok (less : Bool) (n : Nat) (h : 4 ≤ n) : ExpT (farE less n) ∧ (less = false → 9999 ≤ expV 1125899906842624 (farE less n)) ∧ (less = true → expV 1125899906842624 (farE less n) ≤ -9999) := by
  have hd := nines_dig n
  have h0 : List.replicate n (57 : UInt8) ≠ [] := by
    intro e
    have := congrArg List.length e
    simp at this; omega
  have hf := nines_far n h
  cases less
  · refine ⟨ExpT.plain (.inl rfl) hd h0, fun _ => ?_, fun e => by cases e⟩
    show 9999 ≤ expV 1125899906842624 (101 :: List.replicate n 57)
    rw [expV_plain hd h0]
    omega
  · refine ⟨ExpT.sign (.inl rfl) (.inr rfl) hd h0, (fun e => by cases e), fun _ => ?_⟩
    show expV 1125899906842624 (101 :: 45 :: List.replicate n 57) ≤ -9999
    rw [expV_less hd]
    omega
theorem far_a (less : Bool) (n : Nat) (h : 4 ≤ n) (c : UInt8) (hc : isDig c = true) (hc0 : c ≠ 48) : itemOf (c :: farE less n) = ⟨1, false, 0, 0, if less then -1 else 1, false⟩ := by
  obtain ⟨he, h1, h2⟩ := farE_ok less n h
  obtain ⟨n1, n2, n3, n4⟩ := num_plain (d := [c]) (r := farE less n) (fun x hx => by simp at hx; subst hx; exact hc) (by simp) he
  obtain ⟨t1, t2⟩ := text_pos (t := c :: farE less n) n1 1125899906842624
  unfold itemOf
  rw [if_pos t1, t2]
  have n2' : numD (c :: farE less n) = [c] := n2
  have n3' : numB (c :: farE less n) = 0 := n3
  have n4' : numR (c :: farE less n) = farE less n := n4
  rw [n2', n3', n4']
  have ha : trL [c] = [c] := List.dropWhile_cons_of_neg (by simpa using hc0)
  have hb : trR [c] = [c] := trR_self (by simpa using hc0)
  unfold itemV
  simp only [ha, hb]
  rw [if_neg (by simp)]
  cases less
  · have := h1 rfl
    rw [if_pos (by simp; omega)]; rfl
  · have := h2 rfl
    rw [if_neg (by simp; omega), if_pos (by simp; omega)]; rfl
theorem far_b (less : Bool) (n : Nat) (h : 4 ≤ n) : itemOf ([45, 48, 46, 48, 48] ++ farE less n) = ⟨1, true, 0, 0, 0, false⟩ := by
  obtain ⟨he, _, _⟩ := farE_ok less n h
  obtain ⟨n1, n2, n3, n4⟩ := num_point (d := [48]) (d2 := [48, 48]) (r := farE less n) (by decide) (by decide) (.inl (by simp)) he
  obtain ⟨t1, t2⟩ := text_neg (t := [48] ++ 46 :: ([48, 48] ++ farE less n)) n1 1125899906842624
  have e : [45, 48, 46, 48, 48] ++ farE less n = 45 :: ([48] ++ 46 :: ([48, 48] ++ farE less n)) := rfl
  unfold itemOf
  rw [e, if_pos t1, t2, n2]
  rfl
/-- The low bits of an int. -/
theorem i64_and16 (n : Int) : bits .and .i64 n 65535 = n % 65536 := by
  have h127 : (BitVec.ofInt 64 65535).toNat = 2 ^ 16 - 1 := by decide
  have key : (BitVec.ofInt 64 n &&& BitVec.ofInt 64 65535).toNat = (n % ((2 ^ 64 : Nat) : Int)).toNat % 2 ^ 16 := by
    rw [BitVec.toNat_and, BitVec.toNat_ofInt, h127, Nat.and_two_pow_sub_one_eq_mod]
  show IntKind.i64.wrap ((BitVec.ofInt 64 n &&& BitVec.ofInt 64 65535).toNat : Nat) = n % 65536
  rw [key, IntKind.wrap_i64]
  omega
theorem and_low (n : Int) : ∃ m : Nat, bits .and .i64 n 65535 = (m : Int) ∧ m ≤ 65535 := ⟨(n % 65536).toNat, by rw [i64_and16]; omega, by omega⟩
theorem farE_len (less : Bool) (n : Nat) : (farE less n).length ≤ n + 2 := by unfold farE; cases less <;> simp <;> omega
theorem farE_snoc (less : Bool) (n : Nat) : strL (farE less n) ++ ⟨#[57]⟩ = strL (farE less (n + 1)) := by
  unfold farE strL
  apply ByteArray.ext
  apply Array.toList_inj.1
  simp [List.replicate_succ']
theorem conv_one (W : World) (g : Nat) (c : UInt8) (hc : W.cell? ⟨g, 0, none⟩ = some (.int .u8 (c.toNat : Int))) : (convert 22 9 (.slice (some ⟨g, 0, none⟩) 1 1)).run Tryd.prog W = .ok (.string (strL [c])) W :=
  run_convert_bytes_back (P := Tryd.prog) W 22 9 5 ⟨g, 0, none⟩ 1 [c] sunder_bytes sunder_byte sunder_str (fun j hj => by
    have : j = 0 := by simpa using hj
    subst this
    rw [Lib.add_plain]
    exact hc)
theorem pT_zero {A : Option Addr} {n c k : Nat} {w : World} (h : pT (.slice A n c) k 0 w) : n = 0 := by
  obtain ⟨A', c', zs, he, _, _, _, _, hn⟩ := h
  injection he with e1 e2 e3
  rw [e2]
  exact Nat.le_zero.1 (hn.length_le (by omega))
theorem strL_app (a b : List UInt8) : strL a ++ strL b = strL (a ++ b) := by
  unfold strL
  apply ByteArray.ext
  simp
set_option maxRecDepth 100000 in
set_option maxHeartbeats 2000000 in
theorem scanFar_any (n : Int) (less : Bool) (d : Int) (w : World) (hT : Tab10 w) (_hn : -9223372036854775808 ≤ n ∧ n ≤ 9223372036854775807) (hd : 0 ≤ d ∧ d ≤ 255) :
    Calls Tryd.prog 4 #[.int .i64 n, .bool less, .int .u8 d] w fun e w' => e = .returned (.bool true) ∧ Below w.heap.size w w' := by
  obtain ⟨m0, hm0, hm1⟩ := and_low n
  obtain ⟨m, hm⟩ : ∃ m, 4 + m0 % 57 = m := ⟨_, rfl⟩
  have hmi : (4 : Int) + (m0 : Int) % 57 = (m : Int) := by omega
  have hm4 : 4 ≤ m ∧ m ≤ 60 := by omega
  obtain ⟨x, hx⟩ : ∃ x : Nat, d % 9 = (x : Int) ∧ x ≤ 8 := ⟨(d % 9).toNat, by omega, by omega⟩
  obtain ⟨c, hc⟩ : ∃ c : UInt8, c = UInt8.ofNat (49 + x) := ⟨_, rfl⟩
  have hct : c.toNat = 49 + x := by rw [hc, UInt8.toNat_ofNat']; omega
  have hci : (49 : Int) + (x : Int) = (c.toNat : Int) := by omega
  have hcb : c.toNat ≤ 57 := by omega
  have hcd : isDig c = true := by unfold isDig; simp; omega
  have hc0 : c ≠ 48 := fun e => by rw [e] at hct; simp at hct; omega
  obtain ⟨hx1, hx2⟩ := hx
  have fa := far_a less m hm4.1 c hcd hc0
  have fb := far_b less m hm4.1
  have hcvt := fun W g h => conv_one W g c h
  replace fa := Lib.hid fa
  replace fb := Lib.hid fb
  replace hc := Lib.hid hc
  replace hct := Lib.hid hct
  replace hc0 := Lib.hid hc0
  replace hcd := Lib.hid hcd
  replace hm := Lib.hid hm
  obtain ⟨hd0, hd1⟩ := hd
  cases less
  · skip
    go_enter Tryd.func4, Tryd.ntmps4
    have hL := LiveP.start w
    go_wp2_with fail
    refine (shown_any w hT).mono ?_
    rintro e w1 ⟨rfl, hb⟩
    replace hL := hL.go hb
    clear hb
    go_wp2
    go_loopg [8, 10] m (fun k sv iv wr => ∃ i : Nat, iv = .int .i64 i ∧ i + k = m ∧ sv = .string (strL (farE false i)) ∧ w1 = wr)
    case atStart => exact ⟨0, rfl, by omega, rfl, rfl⟩
    case round =>
      obtain ⟨i, rfl, hik, rfl, rfl⟩ := hrel
      have hsz := strL_size (farE false i)
      have hle := farE_len false i
      by_cases hk0 : gk = 0
      · subst hk0
        obtain rfl : i = m := by omega
        have hcat : ∀ l, strL l ++ strL (farE false i) = strL (l ++ farE false i) := fun l => strL_app _ _
        have hcat2 : (⟨#[45, 48, 46, 48, 48]⟩ : ByteArray) ++ strL (farE false i) = strL ([45, 48, 46, 48, 48] ++ farE false i) := strL_app _ _
        have hsc : (strL [c]).size = 1 := strL_size [c]
        have hs9 : (farE false i).length ≤ 62 := by omega
        have hsl : (c :: farE false i).length ≤ 1000 := by rw [List.length_cons]; omega
        have hsl2 : ([45, 48, 46, 48, 48] ++ farE false i).length ≤ 1000 := by rw [List.length_append]; simp; omega
        replace hsl := Lib.hid hsl
        replace hsl2 := Lib.hid hsl2
        go_wp2_with fail
        refine (of_lit (c :: farE false i) 1 false 0 0 1 false fa.out ⟨by decide, hsl.out⟩ _).mono ?_
        rintro e v1 ⟨A1, n1, c1, rfl, hv, hb⟩
        obtain rfl := pT_zero hv
        replace hL := (hL.go ((Below.refl _ _).alloc (Nat.le_refl _) _)).go hb
        replace hL := (hL.go ((Below.refl _ _).alloc (Nat.le_refl _) (.cells #[.int .i64 1, .bool false, .slice A1 0 c1, .int .i64 0, .int .i64 1, .bool false] 27))).put (pBlk_st _ _ _) (pBlk_made v1 _ 27)
        clear hb hv
        go_wp2_with fail
        refine (of_lit ([45, 48, 46, 48, 48] ++ farE false i) 1 true 0 0 0 false fb.out ⟨by decide, hsl2.out⟩ _).mono ?_
        rintro e v2 ⟨A2, n2, c2, rfl, hv, hb⟩
        obtain rfl := pT_zero hv
        replace hL := hL.go hb
        replace hL := (hL.go ((Below.refl _ _).alloc (Nat.le_refl _) (.cells #[.int .i64 1, .bool true, .slice A2 0 c2, .int .i64 0, .int .i64 0, .bool false] 27))).put (pBlk_st _ _ _) (pBlk_made v2 _ 27)
        clear hb hv
        have B1 := hL.get (P := pBlk v1.heap.size #[.int .i64 1, .bool false, .slice A1 0 c1, .int .i64 0, .int .i64 1, .bool false] 27) (by repeat (first | exact List.mem_cons_self | apply List.mem_cons_of_mem))
        have g0 := B1.cell 0 _ rfl
        have g2 := B1.cell 2 _ rfl
        have g3 := B1.cell 3 _ rfl
        have g4 := B1.cell 4 _ rfl
        clear B1
        go_wp2
        go_ret
        exact ⟨rfl, hL.below⟩
      · have hsn := farE_snoc false i
        have hlt : (i : Int) < (m : Int) := by omega
        have hs9 : (farE false i).length ≤ 62 := by omega
        go_wp2
        go_roundg (gk - 1)
        case measure => omega
        case rel => exact ⟨i + 1, by go_num, by omega, by first | rfl | (rw [hsn]), rfl⟩
  · skip
    go_enter Tryd.func4, Tryd.ntmps4
    have hL := LiveP.start w
    go_wp2_with fail
    refine (shown_any w hT).mono ?_
    rintro e w1 ⟨rfl, hb⟩
    replace hL := hL.go hb
    clear hb
    go_wp2
    go_loopg [8, 10] m (fun k sv iv wr => ∃ i : Nat, iv = .int .i64 i ∧ i + k = m ∧ sv = .string (strL (farE true i)) ∧ w1 = wr)
    case atStart => exact ⟨0, rfl, by omega, rfl, rfl⟩
    case round =>
      obtain ⟨i, rfl, hik, rfl, rfl⟩ := hrel
      have hsz := strL_size (farE true i)
      have hle := farE_len true i
      by_cases hk0 : gk = 0
      · subst hk0
        obtain rfl : i = m := by omega
        have hcat : ∀ l, strL l ++ strL (farE true i) = strL (l ++ farE true i) := fun l => strL_app _ _
        have hcat2 : (⟨#[45, 48, 46, 48, 48]⟩ : ByteArray) ++ strL (farE true i) = strL ([45, 48, 46, 48, 48] ++ farE true i) := strL_app _ _
        have hsc : (strL [c]).size = 1 := strL_size [c]
        have hs9 : (farE true i).length ≤ 62 := by omega
        have hsl : (c :: farE true i).length ≤ 1000 := by rw [List.length_cons]; omega
        have hsl2 : ([45, 48, 46, 48, 48] ++ farE true i).length ≤ 1000 := by rw [List.length_append]; simp; omega
        replace hsl := Lib.hid hsl
        replace hsl2 := Lib.hid hsl2
        go_wp2_with fail
        refine (of_lit (c :: farE true i) 1 false 0 0 (-1) false fa.out ⟨by decide, hsl.out⟩ _).mono ?_
        rintro e v1 ⟨A1, n1, c1, rfl, hv, hb⟩
        obtain rfl := pT_zero hv
        replace hL := (hL.go ((Below.refl _ _).alloc (Nat.le_refl _) _)).go hb
        replace hL := (hL.go ((Below.refl _ _).alloc (Nat.le_refl _) (.cells #[.int .i64 1, .bool false, .slice A1 0 c1, .int .i64 0, .int .i64 (-1), .bool false] 27))).put (pBlk_st _ _ _) (pBlk_made v1 _ 27)
        clear hb hv
        go_wp2_with fail
        refine (of_lit ([45, 48, 46, 48, 48] ++ farE true i) 1 true 0 0 0 false fb.out ⟨by decide, hsl2.out⟩ _).mono ?_
        rintro e v2 ⟨A2, n2, c2, rfl, hv, hb⟩
        obtain rfl := pT_zero hv
        replace hL := hL.go hb
        replace hL := (hL.go ((Below.refl _ _).alloc (Nat.le_refl _) (.cells #[.int .i64 1, .bool true, .slice A2 0 c2, .int .i64 0, .int .i64 0, .bool false] 27))).put (pBlk_st _ _ _) (pBlk_made v2 _ 27)
        clear hb hv
        have B1 := hL.get (P := pBlk v1.heap.size #[.int .i64 1, .bool false, .slice A1 0 c1, .int .i64 0, .int .i64 (-1), .bool false] 27) (by repeat (first | exact List.mem_cons_self | apply List.mem_cons_of_mem))
        have g0 := B1.cell 0 _ rfl
        have g2 := B1.cell 2 _ rfl
        have g3 := B1.cell 3 _ rfl
        have g4 := B1.cell 4 _ rfl
        clear B1
        go_wp2
        go_ret
        exact ⟨rfl, hL.below⟩
      · have hsn := farE_snoc true i
        have hlt : (i : Int) < (m : Int) := by omega
        have hs9 : (farE true i).length ≤ 62 := by omega
        go_wp2
        go_roundg (gk - 1)
        case measure => omega
        case rel => exact ⟨i + 1, by go_num, by omega, by first | rfl | (rw [hsn]), rfl⟩
end Go.Proofs.YtlpcfbilembilaaDoor
