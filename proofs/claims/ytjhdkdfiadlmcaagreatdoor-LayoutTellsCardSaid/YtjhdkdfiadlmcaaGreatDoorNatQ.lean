/- The nat layer: Parse. Conditions: none but a text's reach. -/
import Derived.Test.YtjhdkdfiadlmcaaGreatDoorNatP
import Derived.Shelf.Strings.SlTrimAscii
import Derived.Lib.ParseIntBCases
import Derived.Lib.SmallJoins
namespace Go.Proofs.YtjhdkdfiadlmcaaGreatDoor
open Go.RowKit Go.Cal
/-- Is a text one of a number? -/
structure POk (l : List UInt8) : Prop where
  ne : l ≠ []
  len : l.length ≤ 2000
  head : l.head? = some 48 → l.length ≤ 1
  dig : ∀ c ∈ l, isDig c = true
def d10 : List UInt8 := [48, 49, 50, 51, 52, 53, 54, 55, 56, 57]
theorem d10_contains (c : UInt8) : d10.contains c = isDig c := by
  have h : ∀ n : Fin 256, d10.contains (UInt8.ofNat n.val) = isDig (UInt8.ofNat n.val) := by decide +kernel
  have := h ⟨c.toNat, c.toNat_lt⟩
  simpa using this
theorem dropWhile_none {p : UInt8 → Bool} : ∀ (l : List UInt8), (∀ x ∈ l.dropWhile p, p x = true) → l.dropWhile p = []
  | [], _ => rfl
  | x :: l, h => by
    by_cases hx : p x = true
    · rw [List.dropWhile_cons_of_pos hx] at h ⊢
      exact dropWhile_none l h
    · rw [List.dropWhile_cons_of_neg hx] at h
      exact absurd (h x (by simp)) hx
theorem dropWhile_all {p : UInt8 → Bool} : ∀ (l : List UInt8), l.dropWhile p = [] ↔ ∀ x ∈ l, p x = true
  | [] => by simp
  | x :: l => by
    by_cases hx : p x = true
    · rw [List.dropWhile_cons_of_pos hx, dropWhile_all l]
      simp [hx]
    · rw [List.dropWhile_cons_of_neg hx]
      simp [hx]
theorem trim_digs (l : List UInt8) : Lib.trimS l d10 = [] ↔ ∀ c ∈ l, isDig c = true := by
  have hd : ∀ m : List UInt8, m.dropWhile (d10.contains ·) = [] ↔ ∀ c ∈ m, isDig c = true := fun m => by
    rw [dropWhile_all]
    simp only [d10_contains]
  unfold Lib.trimS Lib.trimLeftS
  rw [hd]
  constructor
  · intro h
    have h2 : ∀ x ∈ l.reverse.dropWhile (d10.contains ·), d10.contains x = true := fun x hx => by
      rw [d10_contains]; exact h x (by unfold Lib.trimRightS; simpa using hx)
    have h3 := (hd _).1 (dropWhile_none _ h2)
    exact fun c hc => h3 c (by simpa using hc)
  · intro h c hc
    have h3 := (hd l.reverse).2 (fun c hc => h c (by simpa using hc))
    unfold Lib.trimRightS at hc
    rw [h3] at hc
    simp at hc
theorem uint_chunk : ∀ (l : List UInt8) (acc : Nat), (∀ c ∈ l, isDig c = true) → acc * 10 ^ l.length + numV l < 10000000000000000000 → Lib.parseUintM 18446744073709551615 acc l = .ok (acc * 10 ^ l.length + numV l)
  | [], acc, _, _ => by simp [Lib.parseUintM, numV]
  | c :: l, acc, hd, hb => by
    have hc := hd c (by simp)
    simp only [isDig, Bool.and_eq_true, decide_eq_true_eq] at hc
    have e : acc * 10 ^ (c :: l).length + numV (c :: l) = (acc * 10 + (c.toNat - 48)) * 10 ^ l.length + numV l := by
      rw [show c :: l = [c] ++ l from rfl, numV_append, List.length_append, Nat.pow_add]
      simp only [List.length_singleton, Nat.pow_one, numV, List.foldl_cons, List.foldl_nil, Nat.zero_mul, Nat.zero_add]
      rw [Nat.add_mul, Nat.mul_assoc, Nat.add_assoc]
    rw [e] at hb ⊢
    have hp : 1 ≤ 10 ^ l.length := Nat.one_le_pow _ _ (by decide)
    have h1 : (acc * 10 + (c.toNat - 48)) * 1 ≤ (acc * 10 + (c.toNat - 48)) * 10 ^ l.length := Nat.mul_le_mul_left _ hp
    rw [Lib.parseUintM, if_pos hc, if_neg (by omega), if_neg (by omega)]
    exact uint_chunk l _ (fun c hc => hd c (by simp [hc])) hb
theorem numV_lt : ∀ (l : List UInt8), (∀ c ∈ l, isDig c = true) → numV l < 10 ^ l.length := by
  intro l
  induction hn : l.length generalizing l with
  | zero => intro _; rw [List.eq_nil_of_length_eq_zero hn]; simp [numV]
  | succ n ih =>
    intro hd
    have h0 : l ≠ [] := by intro e; subst e; simp at hn
    obtain ⟨m, c, rfl⟩ : ∃ m c, l = m ++ [c] := ⟨l.dropLast, l.getLast h0, (List.dropLast_concat_getLast h0).symm⟩
    have hc := hd c (by simp)
    simp only [isDig, Bool.and_eq_true, decide_eq_true_eq] at hc
    have := ih m (by simp at hn; exact hn) (fun c hc => hd c (by simp [hc]))
    rw [numV_snoc, Nat.pow_succ]
    omega
theorem uint_ok {l : List UInt8} (h0 : l ≠ []) (hl : l.length ≤ 19) (hd : ∀ c ∈ l, isDig c = true) : Lib.parseUintB 64 l = .ok (numV l) := by
  have h1 := numV_lt l hd
  have h2 : 10 ^ l.length ≤ 10 ^ 19 := Nat.pow_le_pow_right (by omega) hl
  have := uint_chunk l 0 hd (by rw [Nat.zero_mul, Nat.zero_add]; omega)
  rw [Nat.zero_mul, Nat.zero_add] at this
  unfold Lib.parseUintB
  rw [if_neg h0]
  exact this
theorem trim_text (s : ByteArray) (w : World) (hs : s.size ≤ 9223372036854775807) :
    Calls Tryz.prog 69 #[.string s, .string ⟨#[48, 49, 50, 51, 52, 53, 54, 55, 56, 57]⟩] w fun e w' => e = .returned (.string ⟨(Lib.trimS s.data.toList d10).toArray⟩) ∧ Below w.heap.size w w' :=
  Any.strings_Trim_laid Tryz.lays160 (by kernel_rfl) s ⟨#[48, 49, 50, 51, 52, 53, 54, 55, 56, 57]⟩ w hs (by decide) (ascii_of_all (by decide))
theorem parse_no1 (w : World) : Calls Tryz.prog 41 #[.string ⟨#[]⟩] w fun e w' => e = .returned (.tuple #[.slice none 0 0, .bool false]) ∧ w = w' := by
  go_enter Tryz.func41, Tryz.ntmps41
  go_wp2
  go_ret2
  exact ⟨rfl, rfl⟩
theorem parse_no2 (s : ByteArray) (w : World) (h : 2000 < s.size) (hm : s.size ≤ maxLen) : Calls Tryz.prog 41 #[.string s] w fun e w' => e = .returned (.tuple #[.slice none 0 0, .bool false]) ∧ w = w' := by
  unfold maxLen at hm
  have h1 : (2000 : Int) < (s.size : Int) := by omega
  go_enter Tryz.func41, Tryz.ntmps41
  go_wp2
  all_goals
    go_ret2
    exact ⟨rfl, rfl⟩
theorem head_at (s : ByteArray) (h : 0 < s.size) : s.data.toList.head? = some (s[0]'h) := by
  obtain ⟨⟨l⟩⟩ := s
  cases l with
  | nil => exact absurd h (Nat.lt_irrefl 0)
  | cons x l => rfl
theorem data_of {s : ByteArray} {l : List UInt8} (h : s = ⟨l.toArray⟩) : s.size = l.length ∧ s.toList = l ∧ s.data.toList = l := by
  subst h
  exact ⟨by simp [ByteArray.size], by rw [ByteArray.toList_eq], rfl⟩
theorem parse_no3 (s : ByteArray) (w : World) (h : s.size ≤ 2000) (h0 : 1 < s.size) (h48 : s[0] = 48) : Calls Tryz.prog 41 #[.string s] w fun e w' => e = .returned (.tuple #[.slice none 0 0, .bool false]) ∧ w = w' := by
  have h1 : (s.size : Int) ≤ 2000 := by omega
  have h2 : (1 : Int) < (s.size : Int) := by omega
  have h3 : (0 : Int) < (s.size : Int) := by omega
  have h4 : ((s[0].toNat : Int) == 48) = true := by rw [h48]; rfl
  have h5 : s.toList.isEmpty = false := by
    rw [ByteArray.toList_eq, List.isEmpty_eq_false_iff]
    intro e
    have := Lib.size_eq s
    rw [e, List.length_nil] at this
    omega
  have h6 : 0 < s.size := by omega
  clear h48
  go_enter Tryz.func41, Tryz.ntmps41
  go_wp2
  all_goals
    go_ret2
    exact ⟨rfl, rfl⟩
set_option maxRecDepth 100000 in
set_option maxHeartbeats 2000000 in
theorem parse_no4 (s : ByteArray) (w : World) (h : s.size ≤ 2000) (h0 : 0 < s.size) (hd : ¬ ∀ c ∈ s.data.toList, isDig c = true) (hh : s[0] = 48 → s.size ≤ 1) :
    Calls Tryz.prog 41 #[.string s] w fun e w' => e = .returned (.tuple #[.slice none 0 0, .bool false]) ∧ Below w.heap.size w w' := by
  have h1 : decide (2000 < (s.size : Int)) = false := by rw [decide_eq_false_iff_not]; omega
  have h3 : (0 : Int) < (s.size : Int) := by omega
  have h5 : s.toList.isEmpty = false := by
    rw [ByteArray.toList_eq, List.isEmpty_eq_false_iff]
    intro e
    have := Lib.size_eq s
    rw [e, List.length_nil] at this
    omega
  have htr := trim_text s w (by omega)
  have hne : Lib.trimS s.data.toList d10 ≠ [] := fun e => hd ((trim_digs _).1 e)
  obtain ⟨t, ht⟩ : ∃ t : ByteArray, ⟨(Lib.trimS s.data.toList d10).toArray⟩ = t := ⟨_, rfl⟩
  rw [ht] at htr
  have ht1 : t.toList.isEmpty = false := by
    rw [← ht, ByteArray.toList_eq, List.isEmpty_eq_false_iff]
    exact hne
  have ht2 : ¬ t.toList = [] := by
    rw [← ht, ByteArray.toList_eq]
    exact hne
  replace ht := Lib.hid ht
  replace htr := Lib.hid htr
  clear hne hd
  by_cases h48 : s[0] = 48
  · have h4 : ((s[0].toNat : Int) == 48) = true := by rw [h48]; rfl
    have h7 : decide (1 < (s.size : Int)) = false := by rw [decide_eq_false_iff_not]; have := hh h48; omega
    clear hh h48 h
    go_enter Tryz.func41, Tryz.ntmps41
    go_wp2_with fail
    refine htr.out.mono ?_
    rintro e w1 ⟨rfl, hb⟩
    go_wp2
    go_ret2
    exact ⟨rfl, hb⟩
  · have h4 : ((s[0].toNat : Int) == 48) = false := by
      rw [beq_eq_false_iff_ne]
      intro e
      exact h48 (UInt8.toNat_inj.1 (show s[0].toNat = 48 by omega))
    clear hh h48 h
    go_enter Tryz.func41, Tryz.ntmps41
    go_wp2_with fail
    refine htr.out.mono ?_
    rintro e w1 ⟨rfl, hb⟩
    go_wp2
    go_ret2
    exact ⟨rfl, hb⟩
set_option maxRecDepth 100000 in
set_option maxHeartbeats 4000000 in
theorem parse_yes (s : ByteArray) (l : List UInt8) (hs : s = ⟨l.toArray⟩) (hk : POk l) (w : World) :
    Calls Tryz.prog 41 #[.string s] w fun e w' => (∃ A c zs, e = .returned (.tuple #[.slice A (zs : List Nat).length c, .bool true]) ∧ GotW w' w.heap.size A c zs ∧ Nrm zs (numV l)) ∧ Below w.heap.size w w' := by
  obtain ⟨hz, htl, hdl⟩ := data_of hs
  have hl0 : 0 < l.length := List.length_pos_iff.2 hk.ne
  have hl2 := hk.len
  have h0 : 0 < s.size := by omega
  have h1 : decide (2000 < (s.size : Int)) = false := by rw [decide_eq_false_iff_not]; omega
  have h3 : (0 : Int) < (s.size : Int) := by omega
  have h5 : s.toList.isEmpty = false := by rw [htl, List.isEmpty_eq_false_iff]; exact hk.ne
  have htr := trim_text s w (by omega)
  rw [hdl, (trim_digs l).2 hk.dig] at htr
  replace htr := Lib.hid htr
  have hh := head_at s h0
  rw [hdl] at hh
  obtain ⟨hb48, hdec⟩ : ∃ b48 : Bool, ((s[0].toNat : Int) == 48) = b48 := ⟨_, rfl⟩
  have hsm : hb48 = true → decide (1 < (s.size : Int)) = false := by
    intro e
    rw [e] at hdec
    have : s[0] = 48 := UInt8.toNat_inj.1 (by have := eq_of_beq hdec; show s[0].toNat = 48; omega)
    rw [this] at hh
    have := hk.head hh
    rw [decide_eq_false_iff_not]
    omega
  replace hs := Lib.hid hs
  replace hz := Lib.hid hz
  replace htl := Lib.hid htl
  replace hdl := Lib.hid hdl
  replace hh := Lib.hid hh
  cases hb48 with
  | true =>
    have h7 := hsm rfl
    clear hsm
    go_enter Tryz.func41, Tryz.ntmps41
    go_wp2_with fail
    refine htr.out.mono ?_
    rintro e w1 ⟨rfl, hb⟩
    go_wp2
    go_loopg [0, 4] l.length (fun k sv ov wr => ∃ (i : Nat) (t : ByteArray) (A : Option Addr) (c : Nat) (zs : List Nat), sv = .string t ∧ t = ⟨(l.drop i).toArray⟩ ∧ i + k = l.length ∧ (i = 0 ∨ k % 19 = 0) ∧ ov = .slice A zs.length c ∧ GotW wr w.heap.size A c zs ∧ Nrm zs (numV (l.take i)) ∧ Below w.heap.size w wr)
    case atStart => exact ⟨0, s, none, 0, [], rfl, by rw [List.drop_zero]; exact hs.out, by omega, .inl rfl, rfl, .nil _ _, by rw [List.take_zero]; exact .zero, hb⟩
    case round =>
      clear hb h1 h3 h5 htr hz htl hdl
      obtain ⟨i, t, A, c, zs, rfl, ht, hik, hmod, rfl, gz, nz, hbw⟩ := hrel
      have hzw := hbw.size
      obtain ⟨htz, _, htd⟩ := data_of ht
      rw [List.length_drop, show l.length - i = gk by omega] at htz
      have hdi : ∀ c ∈ l.take i, isDig c = true := fun c hc => hk.dig c (List.mem_of_mem_take hc)
      have hzl : zs.length ≤ 2000 := by
        have h1 := numV_lt _ hdi
        have h2 : 10 ^ (l.take i).length ≤ 18446744073709551616 ^ (l.take i).length := Nat.pow_le_pow_left (by omega) _
        have h3 := nz.length_le (Nat.lt_of_lt_of_le h1 h2)
        rw [List.length_take] at h3
        omega
      replace ht := Lib.hid ht
      replace htd := Lib.hid htd
      by_cases hk0 : gk = 0
      · subst hk0
        have hall := List.take_of_length_le (l := l) (i := i) (by omega)
        rw [hall] at nz
        clear hall
        go_wp2
        go_ret2
        exact ⟨⟨A, c, zs, rfl, gz, nz⟩, hbw⟩
      · obtain ⟨m, hm⟩ : ∃ m, (gk - 1) % 19 = m := ⟨_, rfl⟩
        have hm' : ((gk : Int) - 1) % 19 = (m : Int) := by omega
        have hm1 : m < 19 := by omega
        have hm2 : m + 1 ≤ gk := by omega
        have hg1 : 1 ≤ (gk : Int) := by omega
        have hg2 : (gk : Int) ≤ 2000 := by omega
        have hm3 : (m : Int) + 1 ≤ (gk : Int) := by omega
        have htk : (t.extract 0 (m + 1)).data.toList = (l.drop i).take (m + 1) := by rw [ByteArray.data_extract, Array.toList_extract, htd.out]; simp
        have htr2 : t.extract (m + 1) gk = ⟨(l.drop (i + (m + 1))).toArray⟩ := by
          apply ByteArray.ext
          apply Array.toList_inj.1
          rw [ByteArray.data_extract, Array.toList_extract, htd.out]
          simp only [List.extract_eq_take_drop, List.drop_drop]
          rw [List.take_of_length_le (by rw [List.length_drop]; omega)]
        have hcd : ∀ c ∈ (l.drop i).take (m + 1), isDig c = true := fun c hc => hk.dig c (List.mem_of_mem_drop (List.mem_of_mem_take hc))
        have hcl : ((l.drop i).take (m + 1)).length = m + 1 := by rw [List.length_take, List.length_drop]; omega
        have hu := uint_ok (l := (l.drop i).take (m + 1)) (by intro e; rw [e] at hcl; simp at hcl) (by omega) hcd
        rw [← htk] at hu
        have hxb : numV ((l.drop i).take (m + 1)) < 10000000000000000000 := by
          have h1 := numV_lt _ hcd
          have h2 : 10 ^ ((l.drop i).take (m + 1)).length ≤ 10 ^ 19 := Nat.pow_le_pow_right (by omega) (by omega)
          omega
        have hval : numV (l.take i) * 10000000000000000000 + numV ((l.drop i).take (m + 1)) = numV (l.take (i + (m + 1))) := by
          rw [show l.take (i + (m + 1)) = l.take i ++ (l.drop i).take (m + 1) from List.take_add, numV_append, hcl]
          rcases hmod with rfl | h19
          · simp [numV]
          · rw [show m + 1 = 19 by omega]
        have hmod' : (gk - (m + 1)) % 19 = 0 := by omega
        have hpu := Tryz.strconv_ParseUint_10_at64_ok (t.extract 0 (m + 1)) (by rw [Lib.size_eq, htk, hcl]; omega) _ hu wr
        rw [htk] at hpu
        generalize numV ((l.drop i).take (m + 1)) = x at *
        replace hm := Lib.hid hm
        replace htk := Lib.hid htk
        replace htr2 := Lib.hid htr2
        replace hcl := Lib.hid hcl
        replace hxb := Lib.hid hxb
        replace hval := Lib.hid hval
        replace hmod' := Lib.hid hmod'
        replace hpu := Lib.hid hpu
        clear hu hcd hdi hmod
        go_wp2_with fail
        refine hpu.out.mono ?_
        rintro e w2 ⟨rfl, hw2⟩
        have hb2 : Below wr.heap.size wr w2 := by
          rcases hw2 with rfl | rfl
          · exact .refl _ _
          · exact Go.Joins.below_bytesWorld _ wr _ _ (Nat.le_refl _)
        clear hw2
        have hz2 := hb2.size
        have gz2 := gz.below hb2
        go_wp2_with fail
        refine (of_any 10000000000000000000 (by omega) w2).mono ?_
        rintro e w3 ⟨A3, c3, z3, rfl, g3, n3, hb3⟩
        have hz3 := hb3.size
        have gz3 := gz2.below hb3
        have hl3 : z3.length ≤ 1 := n3.length_le (by omega)
        go_wp2_with fail
        refine (mul_any c c3 w3 gz3.rd g3.rd (by omega) (by omega) nz.dig n3.dig).mono ?_
        rintro e w4 ⟨A4, c4, z4, rfl, g4, n4, hb4⟩
        rw [nz.val, n3.val] at n4
        have hz4 := hb4.size
        have hl4 : z4.length ≤ zs.length + 1 := by
          refine n4.length_le ?_
          have h1 := vl_lt nz.dig
          rw [nz.val] at h1
          rw [Nat.pow_succ]
          exact Nat.lt_of_lt_of_le (Nat.mul_lt_mul_of_pos_right h1 (by omega)) (Nat.mul_le_mul_left _ (by omega))
        go_wp2_with fail
        refine (of_any x (by have := hxb.out; omega) w4).mono ?_
        rintro e w5 ⟨A5, c5, z5, rfl, g5, n5, hb5⟩
        have hz5 := hb5.size
        have hl5 : z5.length ≤ 1 := n5.length_le (by have := hxb.out; omega)
        have g4' := g4.below hb5
        go_wp2_with fail
        refine (add_any c4 c5 w5 g4'.rd g5.rd (by omega) (by omega) n4.dig n5.dig).mono ?_
        rintro e w6 ⟨A6, c6, z6, rfl, g6, n6, hb6⟩
        rw [n4.val, n5.val, hval.out] at n6
        go_wp2
        go_roundg (gk - (m + 1))
        case measure => omega
        case rel => exact ⟨i + (m + 1), _, A6, c6, z6, rfl, htr2.out, by omega, .inr hmod'.out, rfl, gotW_base (gotU_toW g6) (by omega), n6, chain (chain (chain (chain (chain hbw hb2) hb3) hb4) hb5) hb6⟩
  | false =>
    clear hsm
    go_enter Tryz.func41, Tryz.ntmps41
    go_wp2_with fail
    refine htr.out.mono ?_
    rintro e w1 ⟨rfl, hb⟩
    go_wp2
    go_loopg [0, 4] l.length (fun k sv ov wr => ∃ (i : Nat) (t : ByteArray) (A : Option Addr) (c : Nat) (zs : List Nat), sv = .string t ∧ t = ⟨(l.drop i).toArray⟩ ∧ i + k = l.length ∧ (i = 0 ∨ k % 19 = 0) ∧ ov = .slice A zs.length c ∧ GotW wr w.heap.size A c zs ∧ Nrm zs (numV (l.take i)) ∧ Below w.heap.size w wr)
    case atStart => exact ⟨0, s, none, 0, [], rfl, by rw [List.drop_zero]; exact hs.out, by omega, .inl rfl, rfl, .nil _ _, by rw [List.take_zero]; exact .zero, hb⟩
    case round =>
      clear hb h1 h3 h5 htr hz htl hdl
      obtain ⟨i, t, A, c, zs, rfl, ht, hik, hmod, rfl, gz, nz, hbw⟩ := hrel
      have hzw := hbw.size
      obtain ⟨htz, _, htd⟩ := data_of ht
      rw [List.length_drop, show l.length - i = gk by omega] at htz
      have hdi : ∀ c ∈ l.take i, isDig c = true := fun c hc => hk.dig c (List.mem_of_mem_take hc)
      have hzl : zs.length ≤ 2000 := by
        have h1 := numV_lt _ hdi
        have h2 : 10 ^ (l.take i).length ≤ 18446744073709551616 ^ (l.take i).length := Nat.pow_le_pow_left (by omega) _
        have h3 := nz.length_le (Nat.lt_of_lt_of_le h1 h2)
        rw [List.length_take] at h3
        omega
      replace ht := Lib.hid ht
      replace htd := Lib.hid htd
      by_cases hk0 : gk = 0
      · subst hk0
        have hall := List.take_of_length_le (l := l) (i := i) (by omega)
        rw [hall] at nz
        clear hall
        go_wp2
        go_ret2
        exact ⟨⟨A, c, zs, rfl, gz, nz⟩, hbw⟩
      · obtain ⟨m, hm⟩ : ∃ m, (gk - 1) % 19 = m := ⟨_, rfl⟩
        have hm' : ((gk : Int) - 1) % 19 = (m : Int) := by omega
        have hm1 : m < 19 := by omega
        have hm2 : m + 1 ≤ gk := by omega
        have hg1 : 1 ≤ (gk : Int) := by omega
        have hg2 : (gk : Int) ≤ 2000 := by omega
        have hm3 : (m : Int) + 1 ≤ (gk : Int) := by omega
        have htk : (t.extract 0 (m + 1)).data.toList = (l.drop i).take (m + 1) := by rw [ByteArray.data_extract, Array.toList_extract, htd.out]; simp
        have htr2 : t.extract (m + 1) gk = ⟨(l.drop (i + (m + 1))).toArray⟩ := by
          apply ByteArray.ext
          apply Array.toList_inj.1
          rw [ByteArray.data_extract, Array.toList_extract, htd.out]
          simp only [List.extract_eq_take_drop, List.drop_drop]
          rw [List.take_of_length_le (by rw [List.length_drop]; omega)]
        have hcd : ∀ c ∈ (l.drop i).take (m + 1), isDig c = true := fun c hc => hk.dig c (List.mem_of_mem_drop (List.mem_of_mem_take hc))
        have hcl : ((l.drop i).take (m + 1)).length = m + 1 := by rw [List.length_take, List.length_drop]; omega
        have hu := uint_ok (l := (l.drop i).take (m + 1)) (by intro e; rw [e] at hcl; simp at hcl) (by omega) hcd
        rw [← htk] at hu
        have hxb : numV ((l.drop i).take (m + 1)) < 10000000000000000000 := by
          have h1 := numV_lt _ hcd
          have h2 : 10 ^ ((l.drop i).take (m + 1)).length ≤ 10 ^ 19 := Nat.pow_le_pow_right (by omega) (by omega)
          omega
        have hval : numV (l.take i) * 10000000000000000000 + numV ((l.drop i).take (m + 1)) = numV (l.take (i + (m + 1))) := by
          rw [show l.take (i + (m + 1)) = l.take i ++ (l.drop i).take (m + 1) from List.take_add, numV_append, hcl]
          rcases hmod with rfl | h19
          · simp [numV]
          · rw [show m + 1 = 19 by omega]
        have hmod' : (gk - (m + 1)) % 19 = 0 := by omega
        have hpu := Tryz.strconv_ParseUint_10_at64_ok (t.extract 0 (m + 1)) (by rw [Lib.size_eq, htk, hcl]; omega) _ hu wr
        rw [htk] at hpu
        generalize numV ((l.drop i).take (m + 1)) = x at *
        replace hm := Lib.hid hm
        replace htk := Lib.hid htk
        replace htr2 := Lib.hid htr2
        replace hcl := Lib.hid hcl
        replace hxb := Lib.hid hxb
        replace hval := Lib.hid hval
        replace hmod' := Lib.hid hmod'
        replace hpu := Lib.hid hpu
        clear hu hcd hdi hmod
        go_wp2_with fail
        refine hpu.out.mono ?_
        rintro e w2 ⟨rfl, hw2⟩
        have hb2 : Below wr.heap.size wr w2 := by
          rcases hw2 with rfl | rfl
          · exact .refl _ _
          · exact Go.Joins.below_bytesWorld _ wr _ _ (Nat.le_refl _)
        clear hw2
        have hz2 := hb2.size
        have gz2 := gz.below hb2
        go_wp2_with fail
        refine (of_any 10000000000000000000 (by omega) w2).mono ?_
        rintro e w3 ⟨A3, c3, z3, rfl, g3, n3, hb3⟩
        have hz3 := hb3.size
        have gz3 := gz2.below hb3
        have hl3 : z3.length ≤ 1 := n3.length_le (by omega)
        go_wp2_with fail
        refine (mul_any c c3 w3 gz3.rd g3.rd (by omega) (by omega) nz.dig n3.dig).mono ?_
        rintro e w4 ⟨A4, c4, z4, rfl, g4, n4, hb4⟩
        rw [nz.val, n3.val] at n4
        have hz4 := hb4.size
        have hl4 : z4.length ≤ zs.length + 1 := by
          refine n4.length_le ?_
          have h1 := vl_lt nz.dig
          rw [nz.val] at h1
          rw [Nat.pow_succ]
          exact Nat.lt_of_lt_of_le (Nat.mul_lt_mul_of_pos_right h1 (by omega)) (Nat.mul_le_mul_left _ (by omega))
        go_wp2_with fail
        refine (of_any x (by have := hxb.out; omega) w4).mono ?_
        rintro e w5 ⟨A5, c5, z5, rfl, g5, n5, hb5⟩
        have hz5 := hb5.size
        have hl5 : z5.length ≤ 1 := n5.length_le (by have := hxb.out; omega)
        have g4' := g4.below hb5
        go_wp2_with fail
        refine (add_any c4 c5 w5 g4'.rd g5.rd (by omega) (by omega) n4.dig n5.dig).mono ?_
        rintro e w6 ⟨A6, c6, z6, rfl, g6, n6, hb6⟩
        rw [n4.val, n5.val, hval.out] at n6
        go_wp2
        go_roundg (gk - (m + 1))
        case measure => omega
        case rel => exact ⟨i + (m + 1), _, A6, c6, z6, rfl, htr2.out, by omega, .inr hmod'.out, rfl, gotW_base (gotU_toW g6) (by omega), n6, chain (chain (chain (chain (chain hbw hb2) hb3) hb4) hb5) hb6⟩
theorem str_of (s : ByteArray) : s = ⟨s.data.toList.toArray⟩ := by cases s; simp
/-- Parse, of a text that is none of a number. -/
theorem parse_no (s : ByteArray) (w : World) (hm : s.size ≤ maxLen) (h : ¬ POk s.data.toList) :
    Calls Tryz.prog 41 #[.string s] w fun e w' => e = .returned (.tuple #[.slice none 0 0, .bool false]) ∧ Below w.heap.size w w' := by
  have hz := Lib.size_eq s
  rcases Nat.eq_zero_or_pos s.size with h0 | h0
  · have e : s = ⟨#[]⟩ := by
      have e0 : s.data.toList = [] := List.eq_nil_of_length_eq_zero (by omega)
      rw [str_of s, e0]
    subst e
    exact (parse_no1 w).mono fun e w' ⟨h1, h2⟩ => ⟨h1, h2 ▸ .refl _ _⟩
  · rcases Nat.lt_or_ge 2000 s.size with h1 | h1
    · exact (parse_no2 s w h1 hm).mono fun e w' ⟨h1, h2⟩ => ⟨h1, h2 ▸ .refl _ _⟩
    · by_cases h48 : s[0] = 48 ∧ 1 < s.size
      · exact (parse_no3 s w h1 h48.2 h48.1).mono fun e w' ⟨h1, h2⟩ => ⟨h1, h2 ▸ .refl _ _⟩
      · refine parse_no4 s w h1 h0 (fun hd => h ⟨fun e => ?_, by omega, fun e => ?_, hd⟩) (fun e => ?_)
        · rw [e, List.length_nil] at hz; omega
        · rw [head_at s h0] at e
          have := Option.some.inj e
          rcases Nat.lt_or_ge 1 s.size with h2 | h2
          · exact absurd ⟨this, h2⟩ h48
          · omega
        · rcases Nat.lt_or_ge 1 s.size with h2 | h2
          · exact absurd ⟨e, h2⟩ h48
          · exact h2
/-- What Parse tells. -/
theorem parse_any (s : ByteArray) (w : World) (h : POk s.data.toList) :
    Calls Tryz.prog 41 #[.string s] w fun e w' => (∃ A c zs, e = .returned (.tuple #[.slice A (zs : List Nat).length c, .bool true]) ∧ GotW w' w.heap.size A c zs ∧ Nrm zs (numV s.data.toList)) ∧ Below w.heap.size w w' :=
  parse_yes s _ (str_of s) h w
end Go.Proofs.YtjhdkdfiadlmcaaGreatDoor
