/- The nat layer: Parse. Conditions: none but a text's reach. -/
/- The nat layer, by values: what each call tells, where a list of live numbers is kept. Conditions: a number's words are counted. -/
/- What must be in any case: 'shown' tells true. Condition: the table of powers reads as it is laid. -/
import Derived.Test.YtdlkfnkmdlcekaaGreatDoorFo15
import Derived.Shelf.Strings.SlTrimAscii
import Derived.Lib.ParseIntBCases
import Derived.Lib.SmallJoins
namespace Go.Proofs.YtdlkfnkmdlcekaaGreatDoor
open Go.RowKit Go.Cal
/-- Is a text one of a number? -/
structure POk (l : List UInt8) : Prop where
  ne : l ≠ []
  len : l.length ≤ 2000
  head : l.head? = some 48 → l.length ≤ 1
  dig : ∀ c ∈ l, isDig c = true
def d10 : List UInt8 := [48, 49, 50, 51, 52, 53, 54, 55, 56, 57]
theorem d10_contains (c : UInt8) : d10.contains c = isDig c := by
  have h : ∀ n : Fin 256, d10.contains (UInt8.ofNat n.val) = isDig (UInt8.ofNat n.val) := by decide +kernel
  have := h ⟨c.toNat, c.toNat_lt⟩
  simpa using this
theorem dropWhile_none {p : UInt8 → Bool} : ∀ (l : List UInt8), (∀ x ∈ l.dropWhile p, p x = true) → l.dropWhile p = []
  | [], _ => rfl
  | x :: l, h => by
    by_cases hx : p x = true
    · rw [List.dropWhile_cons_of_pos hx] at h ⊢
      exact dropWhile_none l h
    · rw [List.dropWhile_cons_of_neg hx] at h
      exact absurd (h x (by simp)) hx
theorem dropWhile_all {p : UInt8 → Bool} : ∀ (l : List UInt8), l.dropWhile p = [] ↔ ∀ x ∈ l, p x = true
  | [] => by simp
  | x :: l => by
    by_cases hx : p x = true
    · rw [List.dropWhile_cons_of_pos hx, dropWhile_all l]
      simp [hx]
    · rw [List.dropWhile_cons_of_neg hx]
      simp [hx]
theorem trim_digs (l : List UInt8) : Lib.trimS l d10 = [] ↔ ∀ c ∈ l, isDig c = true := by
  have hd : ∀ m : List UInt8, m.dropWhile (d10.contains ·) = [] ↔ ∀ c ∈ m, isDig c = true := fun m => by
    rw [dropWhile_all]
    simp only [d10_contains]
  unfold Lib.trimS Lib.trimLeftS
  rw [hd]
  constructor
  · intro h
    have h2 : ∀ x ∈ l.reverse.dropWhile (d10.contains ·), d10.contains x = true := fun x hx => by
      rw [d10_contains]; exact h x (by unfold Lib.trimRightS; simpa using hx)
    have h3 := (hd _).1 (dropWhile_none _ h2)
    exact fun c hc => h3 c (by simpa using hc)
  · intro h c hc
    have h3 := (hd l.reverse).2 (fun c hc => h c (by simpa using hc))
    unfold Lib.trimRightS at hc
    rw [h3] at hc
    simp at hc
theorem uint_chunk : ∀ (l : List UInt8) (acc : Nat), (∀ c ∈ l, isDig c = true) → acc * 10 ^ l.length + numV l < 10000000000000000000 → Lib.parseUintM 18446744073709551615 acc l = .ok (acc * 10 ^ l.length + numV l)
  | [], acc, _, _ => by simp [Lib.parseUintM, numV]
  | c :: l, acc, hd, hb => by
    have hc := hd c (by simp)
    simp only [isDig, Bool.and_eq_true, decide_eq_true_eq] at hc
    have e : acc * 10 ^ (c :: l).length + numV (c :: l) = (acc * 10 + (c.toNat - 48)) * 10 ^ l.length + numV l := by
      rw [show c :: l = [c] ++ l from rfl, numV_append, List.length_append, Nat.pow_add]
      simp only [List.length_singleton, Nat.pow_one, numV, List.foldl_cons, List.foldl_nil, Nat.zero_mul, Nat.zero_add]
      rw [Nat.add_mul, Nat.mul_assoc, Nat.add_assoc]
    rw [e] at hb ⊢
    have hp : 1 ≤ 10 ^ l.length := Nat.one_le_pow _ _ (by decide)
    have h1 : (acc * 10 + (c.toNat - 48)) * 1 ≤ (acc * 10 + (c.toNat - 48)) * 10 ^ l.length := Nat.mul_le_mul_left _ hp
    rw [Lib.parseUintM, if_pos hc, if_neg (by omega), if_neg (by omega)]
    exact uint_chunk l _ (fun c hc => hd c (by simp [hc])) hb
theorem numV_lt : ∀ (l : List UInt8), (∀ c ∈ l, isDig c = true) → numV l < 10 ^ l.length := by
  intro l
  induction hn : l.length generalizing l with
  | zero => intro _; rw [List.eq_nil_of_length_eq_zero hn]; simp [numV]
  | succ n ih =>
    intro hd
    have h0 : l ≠ [] := by intro e; subst e; simp at hn
    obtain ⟨m, c, rfl⟩ : ∃ m c, l = m ++ [c] := ⟨l.dropLast, l.getLast h0, (List.dropLast_concat_getLast h0).symm⟩
    have hc := hd c (by simp)
    simp only [isDig, Bool.and_eq_true, decide_eq_true_eq] at hc
    have := ih m (by simp at hn; exact hn) (fun c hc => hd c (by simp [hc]))
    rw [numV_snoc, Nat.pow_succ]
    omega
theorem uint_ok {l : List UInt8} (h0 : l ≠ []) (hl : l.length ≤ 19) (hd : ∀ c ∈ l, isDig c = true) : Lib.parseUintB 64 l = .ok (numV l) := by
  have h1 := numV_lt l hd
  have h2 : 10 ^ l.length ≤ 10 ^ 19 := Nat.pow_le_pow_right (by omega) hl
  have := uint_chunk l 0 hd (by rw [Nat.zero_mul, Nat.zero_add]; omega)
  rw [Nat.zero_mul, Nat.zero_add] at this
  unfold Lib.parseUintB
  rw [if_neg h0]
  exact this
theorem trim_text (s : ByteArray) (w : World) (hs : s.size ≤ 9223372036854775807) :
    Calls Tryz.prog 110 #[.string s, .string ⟨#[48, 49, 50, 51, 52, 53, 54, 55, 56, 57]⟩] w fun e w' => e = .returned (.string ⟨(Lib.trimS s.data.toList d10).toArray⟩) ∧ Below w.heap.size w w' :=
  Any.strings_Trim_laid Tryz.lays160 (by kernel_rfl) s ⟨#[48, 49, 50, 51, 52, 53, 54, 55, 56, 57]⟩ w hs (by decide) (ascii_of_all (by decide))
theorem parse_no1 (w : World) : Calls Tryz.prog 76 #[.string ⟨#[]⟩] w fun e w' => e = .returned (.tuple #[.slice none 0 0, .bool false]) ∧ w = w' := by
  go_enter Tryz.func76, Tryz.ntmps76
  go_wp2
  go_ret2
  exact ⟨rfl, rfl⟩
theorem parse_no2 (s : ByteArray) (w : World) (h : 2000 < s.size) (hm : s.size ≤ maxLen) : Calls Tryz.prog 76 #[.string s] w fun e w' => e = .returned (.tuple #[.slice none 0 0, .bool false]) ∧ w = w' := by
  unfold maxLen at hm
  have h1 : (2000 : Int) < (s.size : Int) := by omega
  go_enter Tryz.func76, Tryz.ntmps76
  go_wp2
  all_goals
    go_ret2
    exact ⟨rfl, rfl⟩
theorem head_at (s : ByteArray) (h : 0 < s.size) : s.data.toList.head? = some (s[0]'h) := by
  obtain ⟨⟨l⟩⟩ := s
  cases l with
  | nil => exact absurd h (Nat.lt_irrefl 0)
  | cons x l => rfl
theorem data_of {s : ByteArray} {l : List UInt8} (h : s = ⟨l.toArray⟩) : s.size = l.length ∧ s.toList = l ∧ s.data.toList = l := by
  subst h
  exact ⟨by simp [ByteArray.size], by rw [ByteArray.toList_eq], rfl⟩
theorem parse_no3 (s : ByteArray) (w : World) (h : s.size ≤ 2000) (h0 : 1 < s.size) (h48 : s[0] = 48) : Calls Tryz.prog 76 #[.string s] w fun e w' => e = .returned (.tuple #[.slice none 0 0, .bool false]) ∧ w = w' := by
  have h1 : (s.size : Int) ≤ 2000 := by omega
  have h2 : (1 : Int) < (s.size : Int) := by omega
  have h3 : (0 : Int) < (s.size : Int) := by omega
  have h4 : ((s[0].toNat : Int) == 48) = true := by rw [h48]; rfl
  have h5 : s.toList.isEmpty = false := by
    rw [ByteArray.toList_eq, List.isEmpty_eq_false_iff]
    intro e
    have := Lib.size_eq s
    rw [e, List.length_nil] at this
    omega
  have h6 : 0 < s.size := by omega
  clear h48
  go_enter Tryz.func76, Tryz.ntmps76
  go_wp2
  all_goals
    go_ret2
    exact ⟨rfl, rfl⟩
set_option maxRecDepth 100000 in
set_option maxHeartbeats 2000000 in
theorem parse_no4 (s : ByteArray) (w : World) (h : s.size ≤ 2000) (h0 : 0 < s.size) (hd : ¬ ∀ c ∈ s.data.toList, isDig c = true) (hh : s[0] = 48 → s.size ≤ 1) :
    Calls Tryz.prog 76 #[.string s] w fun e w' => e = .returned (.tuple #[.slice none 0 0, .bool false]) ∧ Below w.heap.size w w' := by
  have h1 : decide (2000 < (s.size : Int)) = false := by rw [decide_eq_false_iff_not]; omega
  have h3 : (0 : Int) < (s.size : Int) := by omega
  have h5 : s.toList.isEmpty = false := by
    rw [ByteArray.toList_eq, List.isEmpty_eq_false_iff]
    intro e
    have := Lib.size_eq s
    rw [e, List.length_nil] at this
    omega
  have htr := trim_text s w (by omega)
  have hne : Lib.trimS s.data.toList d10 ≠ [] := fun e => hd ((trim_digs _).1 e)
  obtain ⟨t, ht⟩ : ∃ t : ByteArray, ⟨(Lib.trimS s.data.toList d10).toArray⟩ = t := ⟨_, rfl⟩
  rw [ht] at htr
  have ht1 : t.toList.isEmpty = false := by
    rw [← ht, ByteArray.toList_eq, List.isEmpty_eq_false_iff]
    exact hne
  have ht2 : ¬ t.toList = [] := by
    rw [← ht, ByteArray.toList_eq]
    exact hne
  replace ht := Lib.hid ht
  replace htr := Lib.hid htr
  clear hne hd
  by_cases h48 : s[0] = 48
  · have h4 : ((s[0].toNat : Int) == 48) = true := by rw [h48]; rfl
    have h7 : decide (1 < (s.size : Int)) = false := by rw [decide_eq_false_iff_not]; have := hh h48; omega
    clear hh h48 h
    go_enter Tryz.func76, Tryz.ntmps76
    go_wp2_with fail
    refine htr.out.mono ?_
    rintro e w1 ⟨rfl, hb⟩
    go_wp2
    go_ret2
    exact ⟨rfl, hb⟩
  · have h4 : ((s[0].toNat : Int) == 48) = false := by
      rw [beq_eq_false_iff_ne]
      intro e
      exact h48 (UInt8.toNat_inj.1 (show s[0].toNat = 48 by omega))
    clear hh h48 h
    go_enter Tryz.func76, Tryz.ntmps76
    go_wp2_with fail
    refine htr.out.mono ?_
    rintro e w1 ⟨rfl, hb⟩
    go_wp2
    go_ret2
    exact ⟨rfl, hb⟩
set_option maxRecDepth 100000 in
set_option maxHeartbeats 4000000 in
theorem parse_yes (s : ByteArray) (l : List UInt8) (hs : s = ⟨l.toArray⟩) (hk : POk l) (w : World) :
    Calls Tryz.prog 76 #[.string s] w fun e w' => (∃ A c zs, e = .returned (.tuple #[.slice A (zs : List Nat).length c, .bool true]) ∧ GotW w' w.heap.size A c zs ∧ Nrm zs (numV l)) ∧ Below w.heap.size w w' := by
  obtain ⟨hz, htl, hdl⟩ := data_of hs
  have hl0 : 0 < l.length := List.length_pos_iff.2 hk.ne
  have hl2 := hk.len
  have h0 : 0 < s.size := by omega
  have h1 : decide (2000 < (s.size : Int)) = false := by rw [decide_eq_false_iff_not]; omega
  have h3 : (0 : Int) < (s.size : Int) := by omega
  have h5 : s.toList.isEmpty = false := by rw [htl, List.isEmpty_eq_false_iff]; exact hk.ne
  have htr := trim_text s w (by omega)
  rw [hdl, (trim_digs l).2 hk.dig] at htr
  replace htr := Lib.hid htr
  have hh := head_at s h0
  rw [hdl] at hh
  obtain ⟨hb48, hdec⟩ : ∃ b48 : Bool, ((s[0].toNat : Int) == 48) = b48 := ⟨_, rfl⟩
  have hsm : hb48 = true → decide (1 < (s.size : Int)) = false := by
    intro e
    rw [e] at hdec
    have : s[0] = 48 := UInt8.toNat_inj.1 (by have := eq_of_beq hdec; show s[0].toNat = 48; omega)
    rw [this] at hh
    have := hk.head hh
    rw [decide_eq_false_iff_not]
    omega
  replace hs := Lib.hid hs
  replace hz := Lib.hid hz
  replace htl := Lib.hid htl
  replace hdl := Lib.hid hdl
  replace hh := Lib.hid hh
  cases hb48 with
  | true =>
    have h7 := hsm rfl
    clear hsm
    go_enter Tryz.func76, Tryz.ntmps76
    go_wp2_with fail
    refine htr.out.mono ?_
    rintro e w1 ⟨rfl, hb⟩
    go_wp2
    go_loopg [0, 4] l.length (fun k sv ov wr => ∃ (i : Nat) (t : ByteArray) (A : Option Addr) (c : Nat) (zs : List Nat), sv = .string t ∧ t = ⟨(l.drop i).toArray⟩ ∧ i + k = l.length ∧ (i = 0 ∨ k % 19 = 0) ∧ ov = .slice A zs.length c ∧ GotW wr w.heap.size A c zs ∧ Nrm zs (numV (l.take i)) ∧ Below w.heap.size w wr)
    case atStart => exact ⟨0, s, none, 0, [], rfl, by rw [List.drop_zero]; exact hs.out, by omega, .inl rfl, rfl, .nil _ _, by rw [List.take_zero]; exact .zero, hb⟩
    case round =>
      clear hb h1 h3 h5 htr hz htl hdl
      obtain ⟨i, t, A, c, zs, rfl, ht, hik, hmod, rfl, gz, nz, hbw⟩ := hrel
      have hzw := hbw.size
      obtain ⟨htz, _, htd⟩ := data_of ht
      rw [List.length_drop, show l.length - i = gk by omega] at htz
      have hdi : ∀ c ∈ l.take i, isDig c = true := fun c hc => hk.dig c (List.mem_of_mem_take hc)
      have hzl : zs.length ≤ 2000 := by
        have h1 := numV_lt _ hdi
        have h2 : 10 ^ (l.take i).length ≤ 18446744073709551616 ^ (l.take i).length := Nat.pow_le_pow_left (by omega) _
        have h3 := nz.length_le (Nat.lt_of_lt_of_le h1 h2)
        rw [List.length_take] at h3
        omega
      replace ht := Lib.hid ht
      replace htd := Lib.hid htd
      by_cases hk0 : gk = 0
      · subst hk0
        have hall := List.take_of_length_le (l := l) (i := i) (by omega)
        rw [hall] at nz
        clear hall
        go_wp2
        go_ret2
        exact ⟨⟨A, c, zs, rfl, gz, nz⟩, hbw⟩
      · obtain ⟨m, hm⟩ : ∃ m, (gk - 1) % 19 = m := ⟨_, rfl⟩
        have hm' : ((gk : Int) - 1) % 19 = (m : Int) := by omega
        have hm1 : m < 19 := by omega
        have hm2 : m + 1 ≤ gk := by omega
        have hg1 : 1 ≤ (gk : Int) := by omega
        have hg2 : (gk : Int) ≤ 2000 := by omega
        have hm3 : (m : Int) + 1 ≤ (gk : Int) := by omega
        have htk : (t.extract 0 (m + 1)).data.toList = (l.drop i).take (m + 1) := by rw [ByteArray.data_extract, Array.toList_extract, htd.out]; simp
        have htr2 : t.extract (m + 1) gk = ⟨(l.drop (i + (m + 1))).toArray⟩ := by
          apply ByteArray.ext
          apply Array.toList_inj.1
          rw [ByteArray.data_extract, Array.toList_extract, htd.out]
          simp only [List.extract_eq_take_drop, List.drop_drop]
          rw [List.take_of_length_le (by rw [List.length_drop]; omega)]
        have hcd : ∀ c ∈ (l.drop i).take (m + 1), isDig c = true := fun c hc => hk.dig c (List.mem_of_mem_drop (List.mem_of_mem_take hc))
        have hcl : ((l.drop i).take (m + 1)).length = m + 1 := by rw [List.length_take, List.length_drop]; omega
        have hu := uint_ok (l := (l.drop i).take (m + 1)) (by intro e; rw [e] at hcl; simp at hcl) (by omega) hcd
        rw [← htk] at hu
        have hxb : numV ((l.drop i).take (m + 1)) < 10000000000000000000 := by
          have h1 := numV_lt _ hcd
          have h2 : 10 ^ ((l.drop i).take (m + 1)).length ≤ 10 ^ 19 := Nat.pow_le_pow_right (by omega) (by omega)
          omega
        have hval : numV (l.take i) * 10000000000000000000 + numV ((l.drop i).take (m + 1)) = numV (l.take (i + (m + 1))) := by
          rw [show l.take (i + (m + 1)) = l.take i ++ (l.drop i).take (m + 1) from List.take_add, numV_append, hcl]
          rcases hmod with rfl | h19
          · simp [numV]
          · rw [show m + 1 = 19 by omega]
        have hmod' : (gk - (m + 1)) % 19 = 0 := by omega
        have hpu := Tryz.strconv_ParseUint_10_at64_ok (t.extract 0 (m + 1)) (by rw [Lib.size_eq, htk, hcl]; omega) _ hu wr
        rw [htk] at hpu
        generalize numV ((l.drop i).take (m + 1)) = x at *
        replace hm := Lib.hid hm
        replace htk := Lib.hid htk
        replace htr2 := Lib.hid htr2
        replace hcl := Lib.hid hcl
        replace hxb := Lib.hid hxb
        replace hval := Lib.hid hval
        replace hmod' := Lib.hid hmod'
        replace hpu := Lib.hid hpu
        clear hu hcd hdi hmod
        go_wp2_with fail
        refine hpu.out.mono ?_
        rintro e w2 ⟨rfl, hw2⟩
        have hb2 : Below wr.heap.size wr w2 := by
          rcases hw2 with rfl | rfl
          · exact .refl _ _
          · exact Go.Joins.below_bytesWorld _ wr _ _ (Nat.le_refl _)
        clear hw2
        have hz2 := hb2.size
        have gz2 := gz.below hb2
        go_wp2_with fail
        refine (of_any 10000000000000000000 (by omega) w2).mono ?_
        rintro e w3 ⟨A3, c3, z3, rfl, g3, n3, hb3⟩
        have hz3 := hb3.size
        have gz3 := gz2.below hb3
        have hl3 : z3.length ≤ 1 := n3.length_le (by omega)
        go_wp2_with fail
        refine (mul_any c c3 w3 gz3.rd g3.rd (by omega) (by omega) nz.dig n3.dig).mono ?_
        rintro e w4 ⟨A4, c4, z4, rfl, g4, n4, hb4⟩
        rw [nz.val, n3.val] at n4
        have hz4 := hb4.size
        have hl4 : z4.length ≤ zs.length + 1 := by
          refine n4.length_le ?_
          have h1 := vl_lt nz.dig
          rw [nz.val] at h1
          rw [Nat.pow_succ]
          exact Nat.lt_of_lt_of_le (Nat.mul_lt_mul_of_pos_right h1 (by omega)) (Nat.mul_le_mul_left _ (by omega))
        go_wp2_with fail
        refine (of_any x (by have := hxb.out; omega) w4).mono ?_
        rintro e w5 ⟨A5, c5, z5, rfl, g5, n5, hb5⟩
        have hz5 := hb5.size
        have hl5 : z5.length ≤ 1 := n5.length_le (by have := hxb.out; omega)
        have g4' := g4.below hb5
        go_wp2_with fail
        refine (add_any c4 c5 w5 g4'.rd g5.rd (by omega) (by omega) n4.dig n5.dig).mono ?_
        rintro e w6 ⟨A6, c6, z6, rfl, g6, n6, hb6⟩
        rw [n4.val, n5.val, hval.out] at n6
        go_wp2
        go_roundg (gk - (m + 1))
        case measure => omega
        case rel => exact ⟨i + (m + 1), _, A6, c6, z6, rfl, htr2.out, by omega, .inr hmod'.out, rfl, gotW_base (gotU_toW g6) (by omega), n6, chain (chain (chain (chain (chain hbw hb2) hb3) hb4) hb5) hb6⟩
  | false =>
    clear hsm
    go_enter Tryz.func76, Tryz.ntmps76
    go_wp2_with fail
    refine htr.out.mono ?_
    rintro e w1 ⟨rfl, hb⟩
    go_wp2
    go_loopg [0, 4] l.length (fun k sv ov wr => ∃ (i : Nat) (t : ByteArray) (A : Option Addr) (c : Nat) (zs : List Nat), sv = .string t ∧ t = ⟨(l.drop i).toArray⟩ ∧ i + k = l.length ∧ (i = 0 ∨ k % 19 = 0) ∧ ov = .slice A zs.length c ∧ GotW wr w.heap.size A c zs ∧ Nrm zs (numV (l.take i)) ∧ Below w.heap.size w wr)
    case atStart => exact ⟨0, s, none, 0, [], rfl, by rw [List.drop_zero]; exact hs.out, by omega, .inl rfl, rfl, .nil _ _, by rw [List.take_zero]; exact .zero, hb⟩
    case round =>
      clear hb h1 h3 h5 htr hz htl hdl
      obtain ⟨i, t, A, c, zs, rfl, ht, hik, hmod, rfl, gz, nz, hbw⟩ := hrel
      have hzw := hbw.size
      obtain ⟨htz, _, htd⟩ := data_of ht
      rw [List.length_drop, show l.length - i = gk by omega] at htz
      have hdi : ∀ c ∈ l.take i, isDig c = true := fun c hc => hk.dig c (List.mem_of_mem_take hc)
      have hzl : zs.length ≤ 2000 := by
        have h1 := numV_lt _ hdi
        have h2 : 10 ^ (l.take i).length ≤ 18446744073709551616 ^ (l.take i).length := Nat.pow_le_pow_left (by omega) _
        have h3 := nz.length_le (Nat.lt_of_lt_of_le h1 h2)
        rw [List.length_take] at h3
        omega
      replace ht := Lib.hid ht
      replace htd := Lib.hid htd
      by_cases hk0 : gk = 0
      · subst hk0
        have hall := List.take_of_length_le (l := l) (i := i) (by omega)
        rw [hall] at nz
        clear hall
        go_wp2
        go_ret2
        exact ⟨⟨A, c, zs, rfl, gz, nz⟩, hbw⟩
      · obtain ⟨m, hm⟩ : ∃ m, (gk - 1) % 19 = m := ⟨_, rfl⟩
        have hm' : ((gk : Int) - 1) % 19 = (m : Int) := by omega
        have hm1 : m < 19 := by omega
        have hm2 : m + 1 ≤ gk := by omega
        have hg1 : 1 ≤ (gk : Int) := by omega
        have hg2 : (gk : Int) ≤ 2000 := by omega
        have hm3 : (m : Int) + 1 ≤ (gk : Int) := by omega
        have htk : (t.extract 0 (m + 1)).data.toList = (l.drop i).take (m + 1) := by rw [ByteArray.data_extract, Array.toList_extract, htd.out]; simp
        have htr2 : t.extract (m + 1) gk = ⟨(l.drop (i + (m + 1))).toArray⟩ := by
          apply ByteArray.ext
          apply Array.toList_inj.1
          rw [ByteArray.data_extract, Array.toList_extract, htd.out]
          simp only [List.extract_eq_take_drop, List.drop_drop]
          rw [List.take_of_length_le (by rw [List.length_drop]; omega)]
        have hcd : ∀ c ∈ (l.drop i).take (m + 1), isDig c = true := fun c hc => hk.dig c (List.mem_of_mem_drop (List.mem_of_mem_take hc))
        have hcl : ((l.drop i).take (m + 1)).length = m + 1 := by rw [List.length_take, List.length_drop]; omega
        have hu := uint_ok (l := (l.drop i).take (m + 1)) (by intro e; rw [e] at hcl; simp at hcl) (by omega) hcd
        rw [← htk] at hu
        have hxb : numV ((l.drop i).take (m + 1)) < 10000000000000000000 := by
          have h1 := numV_lt _ hcd
          have h2 : 10 ^ ((l.drop i).take (m + 1)).length ≤ 10 ^ 19 := Nat.pow_le_pow_right (by omega) (by omega)
          omega
        have hval : numV (l.take i) * 10000000000000000000 + numV ((l.drop i).take (m + 1)) = numV (l.take (i + (m + 1))) := by
          rw [show l.take (i + (m + 1)) = l.take i ++ (l.drop i).take (m + 1) from List.take_add, numV_append, hcl]
          rcases hmod with rfl | h19
          · simp [numV]
          · rw [show m + 1 = 19 by omega]
        have hmod' : (gk - (m + 1)) % 19 = 0 := by omega
        have hpu := Tryz.strconv_ParseUint_10_at64_ok (t.extract 0 (m + 1)) (by rw [Lib.size_eq, htk, hcl]; omega) _ hu wr
        rw [htk] at hpu
        generalize numV ((l.drop i).take (m + 1)) = x at *
        replace hm := Lib.hid hm
        replace htk := Lib.hid htk
        replace htr2 := Lib.hid htr2
        replace hcl := Lib.hid hcl
        replace hxb := Lib.hid hxb
        replace hval := Lib.hid hval
        replace hmod' := Lib.hid hmod'
        replace hpu := Lib.hid hpu
        clear hu hcd hdi hmod
        go_wp2_with fail
        refine hpu.out.mono ?_
        rintro e w2 ⟨rfl, hw2⟩
        have hb2 : Below wr.heap.size wr w2 := by
          rcases hw2 with rfl | rfl
          · exact .refl _ _
          · exact Go.Joins.below_bytesWorld _ wr _ _ (Nat.le_refl _)
        clear hw2
        have hz2 := hb2.size
        have gz2 := gz.below hb2
        go_wp2_with fail
        refine (of_any 10000000000000000000 (by omega) w2).mono ?_
        rintro e w3 ⟨A3, c3, z3, rfl, g3, n3, hb3⟩
        have hz3 := hb3.size
        have gz3 := gz2.below hb3
        have hl3 : z3.length ≤ 1 := n3.length_le (by omega)
        go_wp2_with fail
        refine (mul_any c c3 w3 gz3.rd g3.rd (by omega) (by omega) nz.dig n3.dig).mono ?_
        rintro e w4 ⟨A4, c4, z4, rfl, g4, n4, hb4⟩
        rw [nz.val, n3.val] at n4
        have hz4 := hb4.size
        have hl4 : z4.length ≤ zs.length + 1 := by
          refine n4.length_le ?_
          have h1 := vl_lt nz.dig
          rw [nz.val] at h1
          rw [Nat.pow_succ]
          exact Nat.lt_of_lt_of_le (Nat.mul_lt_mul_of_pos_right h1 (by omega)) (Nat.mul_le_mul_left _ (by omega))
        go_wp2_with fail
        refine (of_any x (by have := hxb.out; omega) w4).mono ?_
        rintro e w5 ⟨A5, c5, z5, rfl, g5, n5, hb5⟩
        have hz5 := hb5.size
        have hl5 : z5.length ≤ 1 := n5.length_le (by have := hxb.out; omega)
        have g4' := g4.below hb5
        go_wp2_with fail
        refine (add_any c4 c5 w5 g4'.rd g5.rd (by omega) (by omega) n4.dig n5.dig).mono ?_
        rintro e w6 ⟨A6, c6, z6, rfl, g6, n6, hb6⟩
        rw [n4.val, n5.val, hval.out] at n6
        go_wp2
        go_roundg (gk - (m + 1))
        case measure => omega
        case rel => exact ⟨i + (m + 1), _, A6, c6, z6, rfl, htr2.out, by omega, .inr hmod'.out, rfl, gotW_base (gotU_toW g6) (by omega), n6, chain (chain (chain (chain (chain hbw hb2) hb3) hb4) hb5) hb6⟩
theorem str_of (s : ByteArray) : s = ⟨s.data.toList.toArray⟩ := by cases s; simp
/-- Parse, of a text that is none of a number. -/
theorem parse_no (s : ByteArray) (w : World) (hm : s.size ≤ maxLen) (h : ¬ POk s.data.toList) :
    Calls Tryz.prog 76 #[.string s] w fun e w' => e = .returned (.tuple #[.slice none 0 0, .bool false]) ∧ Below w.heap.size w w' := by
  have hz := Lib.size_eq s
  rcases Nat.eq_zero_or_pos s.size with h0 | h0
  · have e : s = ⟨#[]⟩ := by
      have e0 : s.data.toList = [] := List.eq_nil_of_length_eq_zero (by omega)
      rw [str_of s, e0]
    subst e
    exact (parse_no1 w).mono fun e w' ⟨h1, h2⟩ => ⟨h1, h2 ▸ .refl _ _⟩
  · rcases Nat.lt_or_ge 2000 s.size with h1 | h1
    · exact (parse_no2 s w h1 hm).mono fun e w' ⟨h1, h2⟩ => ⟨h1, h2 ▸ .refl _ _⟩
    · by_cases h48 : s[0] = 48 ∧ 1 < s.size
      · exact (parse_no3 s w h1 h48.2 h48.1).mono fun e w' ⟨h1, h2⟩ => ⟨h1, h2 ▸ .refl _ _⟩
      · refine parse_no4 s w h1 h0 (fun hd => h ⟨fun e => ?_, by omega, fun e => ?_, hd⟩) (fun e => ?_)
        · rw [e, List.length_nil] at hz; omega
        · rw [head_at s h0] at e
          have := Option.some.inj e
          rcases Nat.lt_or_ge 1 s.size with h2 | h2
          · exact absurd ⟨this, h2⟩ h48
          · omega
        · rcases Nat.lt_or_ge 1 s.size with h2 | h2
          · exact absurd ⟨e, h2⟩ h48
          · exact h2
/-- What Parse tells. -/
theorem parse_any (s : ByteArray) (w : World) (h : POk s.data.toList) :
    Calls Tryz.prog 76 #[.string s] w fun e w' => (∃ A c zs, e = .returned (.tuple #[.slice A (zs : List Nat).length c, .bool true]) ∧ GotW w' w.heap.size A c zs ∧ Nrm zs (numV s.data.toList)) ∧ Below w.heap.size w w' :=
  parse_yes s _ (str_of s) h w
end Go.Proofs.YtdlkfnkmdlcekaaGreatDoor
namespace Go.Proofs.YtdlkfnkmdlcekaaGreatDoor
open Go.RowKit Go.Cal
/-- The value reads as the number N, of k words at most. -/
def IsN (w : World) (v : Value) (k N : Nat) : Prop :=
  ∃ A c zs, v = .slice A (zs : List Nat).length c ∧ RdU w w.heap.size A zs ∧ zs.length ≤ c ∧ zs.length ≤ k ∧ Dig 18446744073709551616 zs ∧ vl 18446744073709551616 zs = N
theorem IsN.below {w w' : World} {v : Value} {k N : Nat} (h : IsN w v k N) (hb : Below w.heap.size w w') : IsN w' v k N := by
  obtain ⟨A, c, zs, h1, h2, h3⟩ := h
  exact ⟨A, c, zs, h1, (h2.below hb).more hb.size, h3⟩
theorem IsN.drawn {w w' : World} {v : Value} {k N : Nat} (h : IsN w v k N) (hd : Drawn w w') : IsN w' v k N := h.below (hd.below _)
theorem IsN.lt {w : World} {v : Value} {k N : Nat} (h : IsN w v k N) : N < 18446744073709551616 ^ k := by
  obtain ⟨A, c, zs, h1, h2, h3, h4, h5, h6⟩ := h
  have h7 := vl_lt h5
  have h8 : 18446744073709551616 ^ zs.length ≤ 18446744073709551616 ^ k := Nat.pow_le_pow_right (by omega) h4
  omega
theorem IsN.nil (w : World) : IsN w (.slice none 0 0) 0 0 := ⟨none, 0, [], rfl, .nil, Nat.le_refl _, Nat.le_refl _, fun x hx => by simp at hx, rfl⟩
theorem IsN.ofW {w : World} {base k N : Nat} {A : Option Addr} {c : Nat} {zs : List Nat} (g : GotW w base A c zs) (n : Nrm zs N) (hk : N < 18446744073709551616 ^ k) : IsN w (.slice A zs.length c) k N :=
  ⟨A, c, zs, rfl, g.rd, g.cap, n.length_le hk, n.dig, n.val⟩
theorem IsN.more {w : World} {v : Value} {k k' N : Nat} (h : IsN w v k N) (hk : k ≤ k') : IsN w v k' N := by
  obtain ⟨A, c, zs, h1, h2, h3, h4, h5⟩ := h
  exact ⟨A, c, zs, h1, h2, h3, by omega, h5⟩
/-- Below B nothing has turned; the values of the list are live. -/
structure Live (B w : World) (l : List (Value × Nat × Nat)) : Prop where
  below : Below B.heap.size B w
  all : ∀ p ∈ l, IsN w p.1 p.2.1 p.2.2
section
variable {B w : World} {l : List (Value × Nat × Nat)}
theorem Live.size (h : Live B w l) : B.heap.size ≤ w.heap.size := h.below.size
theorem Live.start (w : World) : Live w w [] := ⟨.refl _ _, fun p hp => by simp at hp⟩
theorem Live.get (h : Live B w l) {v : Value} {k N : Nat} (hm : (v, k, N) ∈ l) : IsN w v k N := h.all _ hm
theorem Live.go {w' : World} (h : Live B w l) (hb : Below w.heap.size w w') : Live B w' l := ⟨h.below.trans (hb.mono h.size), fun p hp => (h.all p hp).below hb⟩
theorem Live.put {v : Value} {k N : Nat} (h : Live B w l) (hv : IsN w v k N) : Live B w ((v, k, N) :: l) := ⟨h.below, fun p hp => by
  rcases List.mem_cons.1 hp with rfl | hp
  · exact hv
  · exact h.all p hp⟩
theorem Live.keep {l' : List (Value × Nat × Nat)} (h : Live B w l) (hs : ∀ p ∈ l', p ∈ l) : Live B w l' := ⟨h.below, fun p hp => h.all p (hs p hp)⟩
theorem Live.tab (h : Live B w l) (hT : Tab10 B) : Tab10 w := hT.below h.below
/-- A call tells one number more. -/
def Tells (B : World) (l : List (Value × Nat × Nat)) (k N : Nat) (e : Ending) (w' : World) : Prop := ∃ v, e = .returned v ∧ Live B w' ((v, k, N) :: l)
theorem tells_of_retN {N k : Nat} {e : Ending} {w' : World} (h : Live B w l) (hk : N < 18446744073709551616 ^ k) (hr : RetN w N e w') : Tells B l k N e w' := by
  obtain ⟨A, c, zs, rfl, g, n, hb⟩ := hr
  exact ⟨_, rfl, (h.go hb).put (.ofW (gotU_toW g) n hk)⟩
theorem tells_of_retW {N k : Nat} {e : Ending} {w' : World} (h : Live B w l) (hk : N < 18446744073709551616 ^ k) (hr : RetW w N e w') : Tells B l k N e w' := by
  obtain ⟨A, c, zs, rfl, g, n, hb⟩ := hr
  exact ⟨_, rfl, (h.go hb).put (.ofW g n hk)⟩
variable {v1 v2 : Value} {k1 k2 X Y : Nat}
theorem add_l (h : Live B w l) (m1 : (v1, k1, X) ∈ l) (m2 : (v2, k2, Y) ∈ l) (b1 : k1 ≤ 1048576) (b2 : k2 ≤ 1048576) :
    Calls Tryz.prog 112 #[v1, v2] w (Tells B l (max k1 k2 + 1) (X + Y)) := by
  have i1 := (h.get m1).lt
  have i2 := (h.get m2).lt
  obtain ⟨A1, c1, z1, rfl, r1, hc1, hl1, d1, rfl⟩ := h.get m1
  obtain ⟨A2, c2, z2, rfl, r2, hc2, hl2, d2, rfl⟩ := h.get m2
  refine (add_any c1 c2 w r1 r2 (by omega) (by omega) d1 d2).mono fun e w' hr => tells_of_retN h ?_ hr
  have e1 : 18446744073709551616 ^ k1 ≤ 18446744073709551616 ^ max k1 k2 := Nat.pow_le_pow_right (by omega) (Nat.le_max_left _ _)
  have e2 : 18446744073709551616 ^ k2 ≤ 18446744073709551616 ^ max k1 k2 := Nat.pow_le_pow_right (by omega) (Nat.le_max_right _ _)
  rw [Nat.pow_succ]
  omega
theorem mul_l (h : Live B w l) (m1 : (v1, k1, X) ∈ l) (m2 : (v2, k2, Y) ∈ l) (b1 : k1 ≤ 1048576) (b2 : k2 ≤ 1048576) :
    Calls Tryz.prog 67 #[v1, v2] w (Tells B l (k1 + k2) (X * Y)) := by
  have i1 := (h.get m1).lt
  have i2 := (h.get m2).lt
  obtain ⟨A1, c1, z1, rfl, r1, hc1, hl1, d1, rfl⟩ := h.get m1
  obtain ⟨A2, c2, z2, rfl, r2, hc2, hl2, d2, rfl⟩ := h.get m2
  refine (mul_any c1 c2 w r1 r2 (by omega) (by omega) d1 d2).mono fun e w' hr => tells_of_retN h ?_ hr
  rw [Nat.pow_add]
  exact Nat.mul_lt_mul'' i1 i2
theorem cmp_l (h : Live B w l) (m1 : (v1, k1, X) ∈ l) (m2 : (v2, k2, Y) ∈ l) (b1 : k1 ≤ 1048576) (b2 : k2 ≤ 1048576) :
    Calls Tryz.prog 143 #[v1, v2] w fun e w' => e = .returned (.int .i64 (cmpV (X : Int) (Y : Int))) ∧ Live B w' l := by
  obtain ⟨A1, c1, z1, rfl, r1, hc1, hl1, d1, rfl⟩ := h.get m1
  obtain ⟨A2, c2, z2, rfl, r2, hc2, hl2, d2, rfl⟩ := h.get m2
  exact (cmp_any c1 c2 w r1 r2 hc1 hc2 (by omega) (by omega) d1 d2).mono fun e w' ⟨he, hd⟩ => ⟨he, h.go (hd.below _)⟩
/-- Sub, where there is a difference. -/
def TellsSub (B : World) (l : List (Value × Nat × Nat)) (k N : Nat) (e : Ending) (w' : World) : Prop := ∃ v, e = .returned (.tuple #[v, .bool true]) ∧ Live B w' ((v, k, N) :: l)
/-- Div, by a number that is not 0. -/
def TellsDiv (B : World) (l : List (Value × Nat × Nat)) (k k' Q R : Nat) (e : Ending) (w' : World) : Prop := ∃ v v', e = .returned (.tuple #[v, v', .bool true]) ∧ Live B w' ((v, k, Q) :: (v', k', R) :: l)
theorem div_l (h : Live B w l) (m1 : (v1, k1, X) ∈ l) (m2 : (v2, k2, Y) ∈ l) (b1 : k1 ≤ 1048576) (b2 : k2 ≤ 1048576) (h0 : 0 < Y) :
    Calls Tryz.prog 117 #[v1, v2] w (TellsDiv B l k1 k2 (X / Y) (X % Y)) := by
  have i1 := (h.get m1).lt
  have i2 := (h.get m2).lt
  obtain ⟨A1, c1, z1, rfl, r1, hc1, hl1, d1, rfl⟩ := h.get m1
  obtain ⟨A2, c2, z2, rfl, r2, hc2, hl2, d2, rfl⟩ := h.get m2
  refine (div_any c1 c2 w r1 r2 hc1 hc2 (by omega) (by omega) d1 d2).mono fun e w' hr => ?_
  unfold RetDiv at hr
  rw [if_neg (by omega)] at hr
  obtain ⟨A, c, zs, A', c', rs, rfl, g, n, g', n', hb⟩ := hr
  exact ⟨_, _, rfl, ((h.go hb).put (.ofW g' n' (Nat.lt_trans (Nat.mod_lt _ h0) i2))).put (.ofW g n (Nat.lt_of_le_of_lt (Nat.div_le_self _ _) i1))⟩
theorem div_none (h : Live B w l) (m1 : (v1, k1, X) ∈ l) (m2 : (v2, k2, 0) ∈ l) (b1 : k1 ≤ 1048576) (b2 : k2 ≤ 1048576) :
    Calls Tryz.prog 117 #[v1, v2] w fun e w' => e = .returned (.tuple #[.slice none 0 0, .slice none 0 0, .bool false]) ∧ Live B w' l := by
  obtain ⟨A1, c1, z1, rfl, r1, hc1, hl1, d1, rfl⟩ := h.get m1
  obtain ⟨A2, c2, z2, rfl, r2, hc2, hl2, d2, h0⟩ := h.get m2
  refine (div_any c1 c2 w r1 r2 hc1 hc2 (by omega) (by omega) d1 d2).mono fun e w' hr => ?_
  unfold RetDiv at hr
  rw [if_pos h0] at hr
  exact ⟨hr.1, h.go hr.2⟩
theorem shl_l (n : Int) (k' : Nat) (h : Live B w l) (m1 : (v1, k1, X) ∈ l) (b1 : k1 ≤ 1048576) (hk : X * 2 ^ (min (max n 0) 131072).toNat < 18446744073709551616 ^ k') :
    Calls Tryz.prog 66 #[v1, .int .i64 n] w (Tells B l k' (X * 2 ^ (min (max n 0) 131072).toNat)) := by
  obtain ⟨A1, c1, z1, rfl, r1, hc1, hl1, d1, rfl⟩ := h.get m1
  exact (shl_any c1 n w r1 hc1 (by omega) d1).mono fun e w' hr => tells_of_retN h hk hr
theorem shr_l (n : Int) (h : Live B w l) (m1 : (v1, k1, X) ∈ l) (b1 : k1 ≤ 1048576) :
    Calls Tryz.prog 145 #[v1, .int .i64 n] w (Tells B l k1 (X / 2 ^ (min (max n 0) 131072).toNat)) := by
  have i1 := (h.get m1).lt
  obtain ⟨A1, c1, z1, rfl, r1, hc1, hl1, d1, rfl⟩ := h.get m1
  exact (shr_any c1 n w r1 (by omega) d1).mono fun e w' hr => tells_of_retN h (Nat.lt_of_le_of_lt (Nat.div_le_self _ _) i1) hr
theorem bits_l (h : Live B w l) (m1 : (v1, k1, X) ∈ l) (b1 : k1 ≤ 1048576) :
    Calls Tryz.prog 128 #[v1] w fun e w' => e = .returned (.int .i64 (blen X : Nat)) ∧ w = w' := by
  obtain ⟨A1, c1, z1, rfl, r1, hc1, hl1, d1, rfl⟩ := h.get m1
  exact bits_any c1 w r1 hc1 (by omega) d1
theorem bit_l (i : Nat) (hi : i ≤ 9223372036854775807) (h : Live B w l) (m1 : (v1, k1, X) ∈ l) :
    Calls Tryz.prog 156 #[v1, .int .i64 i] w fun e w' => e = .returned (.bool (X.testBit i)) ∧ w = w' := by
  obtain ⟨A1, c1, z1, rfl, r1, hc1, hl1, d1, rfl⟩ := h.get m1
  exact bit_any c1 i hi w r1 d1
theorem bit_less (i : Int) (hi : i < 0) (h : Live B w l) (m1 : (v1, k1, X) ∈ l) :
    Calls Tryz.prog 156 #[v1, .int .i64 i] w fun e w' => e = .returned (.bool false) ∧ w = w' := by
  obtain ⟨A1, c1, z1, rfl, r1, hc1, hl1, d1, rfl⟩ := h.get m1
  exact bit_neg A1 _ c1 i w hi
theorem even_l (h : Live B w l) (m1 : (v1, k1, X) ∈ l) :
    Calls Tryz.prog 133 #[v1] w fun e w' => e = .returned (.bool (!X.testBit 0)) ∧ w = w' := by
  obtain ⟨A1, c1, z1, rfl, r1, hc1, hl1, d1, rfl⟩ := h.get m1
  exact even_any c1 w r1 d1
theorem of_l (n : Nat) (hn : n < 18446744073709551616) (h : Live B w l) : Calls Tryz.prog 60 #[.int .u64 n] w (Tells B l 1 n) :=
  (of_any n hn w).mono fun _ _ hr => tells_of_retW h (by rw [Nat.pow_one]; exact hn) hr
theorem norm_l (h : Live B w l) (m1 : (v1, k1, X) ∈ l) (b1 : k1 ≤ 1048576) : Calls Tryz.prog 26 #[v1] w (Tells B l k1 X) := by
  have i1 := (h.get m1).lt
  obtain ⟨A1, c1, z1, rfl, r1, hc1, hl1, d1, rfl⟩ := h.get m1
  exact (norm_any c1 w r1 hc1 (by omega) d1).mono fun e w' hr => tells_of_retW h i1 hr
theorem pow_l (base : Nat) (hb : base < 18446744073709551616) (n : Int) (h : Live B w l) : Calls Tryz.prog 68 #[.int .u64 base, .int .i64 n] w (Tells B l ((min (max n 0) 10000).toNat + 1) (base ^ (min (max n 0) 10000).toNat)) :=
  (pow_any base hb n w).mono fun _ _ hr => tells_of_retW h (Nat.lt_of_le_of_lt (Nat.pow_le_pow_left (Nat.le_of_lt hb) _) (Nat.pow_lt_pow_right (by omega) (Nat.lt_succ_self _))) hr
theorem text_l (hT : Tab10 B) (h : Live B w l) (m1 : (v1, k1, X) ∈ l) (b1 : k1 ≤ 1048576) :
    Calls Tryz.prog 28 #[v1] w fun e w' => e = .returned (.string ⟨(Lib.decDigits X).toArray⟩) ∧ Live B w' l := by
  obtain ⟨A1, c1, z1, rfl, r1, hc1, hl1, d1, rfl⟩ := h.get m1
  exact (text_any c1 w r1 hc1 (by omega) d1 (h.tab hT)).mono fun e w' ⟨he, hb⟩ => ⟨he, h.go hb⟩
theorem parse_l (s : ByteArray) (hs : POk s.data.toList) (h : Live B w l) : Calls Tryz.prog 76 #[.string s] w (TellsSub B l s.data.toList.length (numV s.data.toList)) :=
  (parse_any s w hs).mono fun _ _ ⟨⟨_, _, _, he, g, n⟩, hb⟩ => ⟨_, he, (h.go hb).put (.ofW g n (Nat.lt_of_lt_of_le (numV_lt _ hs.dig) (Nat.pow_le_pow_left (by omega) _)))⟩
theorem parse_less (s : ByteArray) (hm : s.size ≤ maxLen) (hs : ¬ POk s.data.toList) (h : Live B w l) : Calls Tryz.prog 76 #[.string s] w fun e w' => e = .returned (.tuple #[.slice none 0 0, .bool false]) ∧ Live B w' l :=
  (parse_no s w hm hs).mono fun _ _ ⟨he, hb⟩ => ⟨he, h.go hb⟩
end
/-- A slice that the text itself lays. -/
theorem IsN.lit (w : World) (L : List Nat) (cs : Array Value) (hcs : cs = (lU L).toArray) (hd : Dig 18446744073709551616 L) : IsN (w.alloc (.cells cs 22)) (.slice (some ⟨w.heap.size, 0, none⟩) L.length L.length) L.length (vl 18446744073709551616 L) := by
  have hrd := ((BlkU.lit w 22 L cs hcs).rd 0 L.length (by omega)).more (B' := (w.alloc (.cells cs 22)).heap.size) (by simp)
  simp only [List.drop_zero, List.take_length] at hrd
  exact ⟨_, _, L, rfl, hrd, Nat.le_refl _, Nat.le_refl _, hd, rfl⟩
theorem Live.lit {B w : World} {l : List (Value × Nat × Nat)} (h : Live B w l) (L : List Nat) (cs : Array Value) (k N : Nat) (hcs : cs = (lU L).toArray) (hd : L.all (· < 18446744073709551616) = true) (hk : L.length = k) (hv : vl 18446744073709551616 L = N) :
    Live B (w.alloc (.cells cs 22)) ((.slice (some ⟨w.heap.size, 0, none⟩) k k, k, N) :: l) := by
  subst hk; subst hv
  exact (h.go ((Below.refl _ _).alloc (Nat.le_refl _) _)).put (.lit w L cs hcs fun x hx => by simpa using List.all_eq_true.1 hd x hx)
/-- A numeral that is told by its digits. -/
theorem dec_is {l : List UInt8} {N : Nat} (h : numV l = N) (h0 : l ≠ []) (hd : l.all isDig = true) (hh : l.head? = some 48 → l.length = 1) : Lib.decDigits N = l := by
  rw [← h]
  exact dec_numV h0 (fun c hc => List.all_eq_true.1 hd c hc) hh
def pOkB (l : List UInt8) : Bool := !l.isEmpty && decide (l.length ≤ 2000) && (!(l.head? == some 48) || decide (l.length ≤ 1)) && l.all isDig
theorem pOk_iff (l : List UInt8) : POk l ↔ pOkB l = true := by
  unfold pOkB
  constructor
  · rintro ⟨h1, h2, h3, h4⟩
    have h5 : l.all isDig = true := List.all_eq_true.2 h4
    simp only [h5, Bool.and_true, decide_eq_true h2, Bool.and_eq_true, Bool.or_eq_true, decide_eq_true_eq, Bool.not_eq_true']
    refine ⟨by simpa using h1, ?_⟩
    by_cases e : l.head? = some 48
    · exact .inr (h3 e)
    · exact .inl (by simpa using e)
  · intro h
    simp only [Bool.and_eq_true, Bool.or_eq_true, decide_eq_true_eq, Bool.not_eq_true'] at h
    obtain ⟨⟨⟨h1, h2⟩, h3⟩, h4⟩ := h
    refine ⟨by simpa using h1, h2, fun e => ?_, fun c hc => List.all_eq_true.1 h4 c hc⟩
    rcases h3 with h3 | h3
    · rw [e] at h3; simp at h3
    · exact h3
section
variable {B w : World} {l : List (Value × Nat × Nat)} {v1 v2 : Value} {k1 k2 X Y : Nat}
theorem parse_is (t : List UInt8) (k N : Nat) (ht : pOkB t = true) (hk : t.length = k) (hv : numV t = N) (h : Live B w l) : Calls Tryz.prog 76 #[.string ⟨t.toArray⟩] w (TellsSub B l k N) := by
  subst hk; subst hv
  exact parse_l ⟨t.toArray⟩ ((pOk_iff _).2 ht) h
theorem parse_isnt (t : List UInt8) (ht : pOkB t = false) (hk : t.length ≤ maxLen) (h : Live B w l) : Calls Tryz.prog 76 #[.string ⟨t.toArray⟩] w fun e w' => e = .returned (.tuple #[.slice none 0 0, .bool false]) ∧ Live B w' l :=
  parse_less ⟨t.toArray⟩ (by simpa [ByteArray.size] using hk) (fun hp => by rw [(pOk_iff _).1 hp] at ht; cases ht) h
theorem text_is (t : List UInt8) (hT : Tab10 B) (h : Live B w l) (m1 : (v1, k1, X) ∈ l) (b1 : k1 ≤ 1048576) (ht : Lib.decDigits X = t) :
    Calls Tryz.prog 28 #[v1] w fun e w' => e = .returned (.string ⟨t.toArray⟩) ∧ Live B w' l := by
  subst ht
  exact text_l hT h m1 b1
theorem pow_is (base : Nat) (n : Int) (n0 k N : Nat) (hb : base < 18446744073709551616) (hn : (min (max n 0) 10000).toNat = n0) (hk : n0 + 1 = k) (hv : base ^ n0 = N) (h : Live B w l) : Calls Tryz.prog 68 #[.int .u64 base, .int .i64 n] w (Tells B l k N) := by
  subst hn; subst hk; subst hv
  exact pow_l base hb n h
theorem of_zero (h : Live B w l) : Calls Tryz.prog 60 #[.int .u64 0] w fun e w' => ∃ A c, e = .returned (.slice A 0 c) ∧ Live B w' l :=
  (of_any 0 (by omega) w).mono fun e w' ⟨A, c, zs, he, g, n, hb⟩ => by
    have h0 : zs.length ≤ 0 := n.length_le (by omega)
    obtain rfl := List.eq_nil_of_length_eq_zero (Nat.le_zero.1 h0)
    exact ⟨A, c, he, h.go hb⟩
theorem Live.nil (h : Live B w l) : Live B w ((.slice none 0 0, 0, 0) :: l) := h.put (.nil w)
end
end Go.Proofs.YtdlkfnkmdlcekaaGreatDoor
namespace Go.Proofs.YtdlkfnkmdlcekaaGreatDoor
open Go.RowKit Go.Cal
end Go.Proofs.YtdlkfnkmdlcekaaGreatDoor
