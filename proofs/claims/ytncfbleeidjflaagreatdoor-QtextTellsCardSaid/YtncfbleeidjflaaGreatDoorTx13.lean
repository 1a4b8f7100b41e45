/- The nat layer: Parse. Conditions: none but a text's reach. -/
/- The nat layer, by values: what each call tells, where a list of live numbers is kept. Conditions: a number's words are counted. -/
/- 'few' is a copy of so many words. Condition: a slice that is nil has no room. -/
/- What the rows of the nat layer share: the tables out of the row's condition, a slice of words out of an argument. Conditions: none. -/
/- The nat layer, by values, where a number's words have no noughts at the end; live facts of any kind. Conditions: a number's words are counted. -/
import Derived.Test.YtncfbleeidjflaaGreatDoorTx12
import Derived.Shelf.Strings.SlTrimAscii
import Derived.Lib.ParseIntBCases
import Derived.Lib.SmallJoins
import Derived.Test.YtncfbleeidjflaaGreatDoorCards
import Derived.Test.YtncfbleeidjflaaGreatDoorTie
import Derived.ProofKit
import Derived.LaidMore
import Derived.OpenShut
import Derived.Lay
import Derived.SevenTiedAt
import Derived.Stop.Joined
import Derived.Lib.LaidTab
namespace Go.Proofs.YtncfbleeidjflaaGreatDoor
open Go.RowKit Go.Cal
/-- Is a text one of a number? -/
structure POk (l : List UInt8) : Prop where
  ne : l ≠ []
  len : l.length ≤ 2000
  head : l.head? = some 48 → l.length ≤ 1
  dig : ∀ c ∈ l, isDig c = true
def d10 : List UInt8 := [48, 49, 50, 51, 52, 53, 54, 55, 56, 57]
theorem d10_contains (c : UInt8) : d10.contains c = isDig c := by
  have h : ∀ n : Fin 256, d10.contains (UInt8.ofNat n.val) = isDig (UInt8.ofNat n.val) := by decide +kernel
  have := h ⟨c.toNat, c.toNat_lt⟩
  simpa using this
theorem dropWhile_none {p : UInt8 → Bool} : ∀ (l : List UInt8), (∀ x ∈ l.dropWhile p, p x = true) → l.dropWhile p = []
  | [], _ => rfl
  | x :: l, h => by
    by_cases hx : p x = true
    · rw [List.dropWhile_cons_of_pos hx] at h ⊢
      exact dropWhile_none l h
    · rw [List.dropWhile_cons_of_neg hx] at h
      exact absurd (h x (by simp)) hx
theorem dropWhile_all {p : UInt8 → Bool} : ∀ (l : List UInt8), l.dropWhile p = [] ↔ ∀ x ∈ l, p x = true
  | [] => by simp
  | x :: l => by
    by_cases hx : p x = true
    · rw [List.dropWhile_cons_of_pos hx, dropWhile_all l]
      simp [hx]
    · rw [List.dropWhile_cons_of_neg hx]
      simp [hx]
theorem trim_digs (l : List UInt8) : Lib.trimS l d10 = [] ↔ ∀ c ∈ l, isDig c = true := by
  have hd : ∀ m : List UInt8, m.dropWhile (d10.contains ·) = [] ↔ ∀ c ∈ m, isDig c = true := fun m => by
    rw [dropWhile_all]
    simp only [d10_contains]
  unfold Lib.trimS Lib.trimLeftS
  rw [hd]
  constructor
  · intro h
    have h2 : ∀ x ∈ l.reverse.dropWhile (d10.contains ·), d10.contains x = true := fun x hx => by
      rw [d10_contains]; exact h x (by unfold Lib.trimRightS; simpa using hx)
    have h3 := (hd _).1 (dropWhile_none _ h2)
    exact fun c hc => h3 c (by simpa using hc)
  · intro h c hc
    have h3 := (hd l.reverse).2 (fun c hc => h c (by simpa using hc))
    unfold Lib.trimRightS at hc
    rw [h3] at hc
    simp at hc
theorem uint_chunk : ∀ (l : List UInt8) (acc : Nat), (∀ c ∈ l, isDig c = true) → acc * 10 ^ l.length + numV l < 10000000000000000000 → Lib.parseUintM 18446744073709551615 acc l = .ok (acc * 10 ^ l.length + numV l)
  | [], acc, _, _ => by simp [Lib.parseUintM, numV]
  | c :: l, acc, hd, hb => by
    have hc := hd c (by simp)
    simp only [isDig, Bool.and_eq_true, decide_eq_true_eq] at hc
    have e : acc * 10 ^ (c :: l).length + numV (c :: l) = (acc * 10 + (c.toNat - 48)) * 10 ^ l.length + numV l := by
      rw [show c :: l = [c] ++ l from rfl, numV_append, List.length_append, Nat.pow_add]
      simp only [List.length_singleton, Nat.pow_one, numV, List.foldl_cons, List.foldl_nil, Nat.zero_mul, Nat.zero_add]
      rw [Nat.add_mul, Nat.mul_assoc, Nat.add_assoc]
    rw [e] at hb ⊢
    have hp : 1 ≤ 10 ^ l.length := Nat.one_le_pow _ _ (by decide)
    have h1 : (acc * 10 + (c.toNat - 48)) * 1 ≤ (acc * 10 + (c.toNat - 48)) * 10 ^ l.length := Nat.mul_le_mul_left _ hp
    rw [Lib.parseUintM, if_pos hc, if_neg (by omega), if_neg (by omega)]
    exact uint_chunk l _ (fun c hc => hd c (by simp [hc])) hb
theorem numV_lt : ∀ (l : List UInt8), (∀ c ∈ l, isDig c = true) → numV l < 10 ^ l.length := by
  intro l
  induction hn : l.length generalizing l with
  | zero => intro _; rw [List.eq_nil_of_length_eq_zero hn]; simp [numV]
  | succ n ih =>
    intro hd
    have h0 : l ≠ [] := by intro e; subst e; simp at hn
    obtain ⟨m, c, rfl⟩ : ∃ m c, l = m ++ [c] := ⟨l.dropLast, l.getLast h0, (List.dropLast_concat_getLast h0).symm⟩
    have hc := hd c (by simp)
    simp only [isDig, Bool.and_eq_true, decide_eq_true_eq] at hc
    have := ih m (by simp at hn; exact hn) (fun c hc => hd c (by simp [hc]))
    rw [numV_snoc, Nat.pow_succ]
    omega
theorem uint_ok {l : List UInt8} (h0 : l ≠ []) (hl : l.length ≤ 19) (hd : ∀ c ∈ l, isDig c = true) : Lib.parseUintB 64 l = .ok (numV l) := by
  have h1 := numV_lt l hd
  have h2 : 10 ^ l.length ≤ 10 ^ 19 := Nat.pow_le_pow_right (by omega) hl
  have := uint_chunk l 0 hd (by rw [Nat.zero_mul, Nat.zero_add]; omega)
  rw [Nat.zero_mul, Nat.zero_add] at this
  unfold Lib.parseUintB
  rw [if_neg h0]
  exact this
theorem trim_text (s : ByteArray) (w : World) (hs : s.size ≤ 9223372036854775807) :
    Calls Tryz.prog 193 #[.string s, .string ⟨#[48, 49, 50, 51, 52, 53, 54, 55, 56, 57]⟩] w fun e w' => e = .returned (.string ⟨(Lib.trimS s.data.toList d10).toArray⟩) ∧ Below w.heap.size w w' :=
  Any.strings_Trim_laid Tryz.lays160 (by kernel_rfl) s ⟨#[48, 49, 50, 51, 52, 53, 54, 55, 56, 57]⟩ w hs (by decide) (ascii_of_all (by decide))
theorem head_at (s : ByteArray) (h : 0 < s.size) : s.data.toList.head? = some (s[0]'h) := by
  obtain ⟨⟨l⟩⟩ := s
  cases l with
  | nil => exact absurd h (Nat.lt_irrefl 0)
  | cons x l => rfl
theorem data_of {s : ByteArray} {l : List UInt8} (h : s = ⟨l.toArray⟩) : s.size = l.length ∧ s.toList = l ∧ s.data.toList = l := by
  subst h
  exact ⟨by simp [ByteArray.size], by rw [ByteArray.toList_eq], rfl⟩
set_option maxRecDepth 100000 in
set_option maxHeartbeats 4000000 in
theorem parse_yes (s : ByteArray) (l : List UInt8) (hs : s = ⟨l.toArray⟩) (hk : POk l) (w : World) :
    Calls Tryz.prog 164 #[.string s] w fun e w' => (∃ A c zs, e = .returned (.tuple #[.slice A (zs : List Nat).length c, .bool true]) ∧ GotW w' w.heap.size A c zs ∧ Nrm zs (numV l)) ∧ Below w.heap.size w w' := by
  obtain ⟨hz, htl, hdl⟩ := data_of hs
  have hl0 : 0 < l.length := List.length_pos_iff.2 hk.ne
  have hl2 := hk.len
  have h0 : 0 < s.size := by omega
  have h1 : decide (2000 < (s.size : Int)) = false := by rw [decide_eq_false_iff_not]; omega
  have h3 : (0 : Int) < (s.size : Int) := by omega
  have h5 : s.toList.isEmpty = false := by rw [htl, List.isEmpty_eq_false_iff]; exact hk.ne
  have htr := trim_text s w (by omega)
  rw [hdl, (trim_digs l).2 hk.dig] at htr
  replace htr := Lib.hid htr
  have hh := head_at s h0
  rw [hdl] at hh
  obtain ⟨hb48, hdec⟩ : ∃ b48 : Bool, ((s[0].toNat : Int) == 48) = b48 := ⟨_, rfl⟩
  have hsm : hb48 = true → decide (1 < (s.size : Int)) = false := by
    intro e
    rw [e] at hdec
    have : s[0] = 48 := UInt8.toNat_inj.1 (by have := eq_of_beq hdec; show s[0].toNat = 48; omega)
    rw [this] at hh
    have := hk.head hh
    rw [decide_eq_false_iff_not]
    omega
  replace hs := Lib.hid hs
  replace hz := Lib.hid hz
  replace htl := Lib.hid htl
  replace hdl := Lib.hid hdl
  replace hh := Lib.hid hh
  cases hb48 with
  | true =>
    have h7 := hsm rfl
    clear hsm
    go_enter Tryz.func164, Tryz.ntmps164
    go_wp2_with fail
    refine htr.out.mono ?_
    rintro e w1 ⟨rfl, hb⟩
    go_wp2
    go_loopg [0, 4] l.length (fun k sv ov wr => ∃ (i : Nat) (t : ByteArray) (A : Option Addr) (c : Nat) (zs : List Nat), sv = .string t ∧ t = ⟨(l.drop i).toArray⟩ ∧ i + k = l.length ∧ (i = 0 ∨ k % 19 = 0) ∧ ov = .slice A zs.length c ∧ GotW wr w.heap.size A c zs ∧ Nrm zs (numV (l.take i)) ∧ Below w.heap.size w wr)
    case atStart => exact ⟨0, s, none, 0, [], rfl, by rw [List.drop_zero]; exact hs.out, by omega, .inl rfl, rfl, .nil _ _, by rw [List.take_zero]; exact .zero, hb⟩
    case round =>
      clear hb h1 h3 h5 htr hz htl hdl
      obtain ⟨i, t, A, c, zs, rfl, ht, hik, hmod, rfl, gz, nz, hbw⟩ := hrel
      have hzw := hbw.size
      obtain ⟨htz, _, htd⟩ := data_of ht
      rw [List.length_drop, show l.length - i = gk by omega] at htz
      have hdi : ∀ c ∈ l.take i, isDig c = true := fun c hc => hk.dig c (List.mem_of_mem_take hc)
      have hzl : zs.length ≤ 2000 := by
        have h1 := numV_lt _ hdi
        have h2 : 10 ^ (l.take i).length ≤ 18446744073709551616 ^ (l.take i).length := Nat.pow_le_pow_left (by omega) _
        have h3 := nz.length_le (Nat.lt_of_lt_of_le h1 h2)
        rw [List.length_take] at h3
        omega
      replace ht := Lib.hid ht
      replace htd := Lib.hid htd
      by_cases hk0 : gk = 0
      · subst hk0
        have hall := List.take_of_length_le (l := l) (i := i) (by omega)
        rw [hall] at nz
        clear hall
        go_wp2
        go_ret2
        exact ⟨⟨A, c, zs, rfl, gz, nz⟩, hbw⟩
      · obtain ⟨m, hm⟩ : ∃ m, (gk - 1) % 19 = m := ⟨_, rfl⟩
        have hm' : ((gk : Int) - 1) % 19 = (m : Int) := by omega
        have hm1 : m < 19 := by omega
        have hm2 : m + 1 ≤ gk := by omega
        have hg1 : 1 ≤ (gk : Int) := by omega
        have hg2 : (gk : Int) ≤ 2000 := by omega
        have hm3 : (m : Int) + 1 ≤ (gk : Int) := by omega
        have htk : (t.extract 0 (m + 1)).data.toList = (l.drop i).take (m + 1) := by rw [ByteArray.data_extract, Array.toList_extract, htd.out]; simp
        have htr2 : t.extract (m + 1) gk = ⟨(l.drop (i + (m + 1))).toArray⟩ := by
          apply ByteArray.ext
          apply Array.toList_inj.1
          rw [ByteArray.data_extract, Array.toList_extract, htd.out]
          simp only [List.extract_eq_take_drop, List.drop_drop]
          rw [List.take_of_length_le (by rw [List.length_drop]; omega)]
        have hcd : ∀ c ∈ (l.drop i).take (m + 1), isDig c = true := fun c hc => hk.dig c (List.mem_of_mem_drop (List.mem_of_mem_take hc))
        have hcl : ((l.drop i).take (m + 1)).length = m + 1 := by rw [List.length_take, List.length_drop]; omega
        have hu := uint_ok (l := (l.drop i).take (m + 1)) (by intro e; rw [e] at hcl; simp at hcl) (by omega) hcd
        rw [← htk] at hu
        have hxb : numV ((l.drop i).take (m + 1)) < 10000000000000000000 := by
          have h1 := numV_lt _ hcd
          have h2 : 10 ^ ((l.drop i).take (m + 1)).length ≤ 10 ^ 19 := Nat.pow_le_pow_right (by omega) (by omega)
          omega
        have hval : numV (l.take i) * 10000000000000000000 + numV ((l.drop i).take (m + 1)) = numV (l.take (i + (m + 1))) := by
          rw [show l.take (i + (m + 1)) = l.take i ++ (l.drop i).take (m + 1) from List.take_add, numV_append, hcl]
          rcases hmod with rfl | h19
          · simp [numV]
          · rw [show m + 1 = 19 by omega]
        have hmod' : (gk - (m + 1)) % 19 = 0 := by omega
        have hpu := Tryz.strconv_ParseUint_10_at64_ok (t.extract 0 (m + 1)) (by rw [Lib.size_eq, htk, hcl]; omega) _ hu wr
        rw [htk] at hpu
        generalize numV ((l.drop i).take (m + 1)) = x at *
        replace hm := Lib.hid hm
        replace htk := Lib.hid htk
        replace htr2 := Lib.hid htr2
        replace hcl := Lib.hid hcl
        replace hxb := Lib.hid hxb
        replace hval := Lib.hid hval
        replace hmod' := Lib.hid hmod'
        replace hpu := Lib.hid hpu
        clear hu hcd hdi hmod
        go_wp2_with fail
        refine hpu.out.mono ?_
        rintro e w2 ⟨rfl, hw2⟩
        have hb2 : Below wr.heap.size wr w2 := by
          rcases hw2 with rfl | rfl
          · exact .refl _ _
          · exact Go.Joins.below_bytesWorld _ wr _ _ (Nat.le_refl _)
        clear hw2
        have hz2 := hb2.size
        have gz2 := gz.below hb2
        go_wp2_with fail
        refine (of_any 10000000000000000000 (by omega) w2).mono ?_
        rintro e w3 ⟨A3, c3, z3, rfl, g3, n3, hb3⟩
        have hz3 := hb3.size
        have gz3 := gz2.below hb3
        have hl3 : z3.length ≤ 1 := n3.length_le (by omega)
        go_wp2_with fail
        refine (mul_any c c3 w3 gz3.rd g3.rd (by omega) (by omega) nz.dig n3.dig).mono ?_
        rintro e w4 ⟨A4, c4, z4, rfl, g4, n4, hb4⟩
        rw [nz.val, n3.val] at n4
        have hz4 := hb4.size
        have hl4 : z4.length ≤ zs.length + 1 := by
          refine n4.length_le ?_
          have h1 := vl_lt nz.dig
          rw [nz.val] at h1
          rw [Nat.pow_succ]
          exact Nat.lt_of_lt_of_le (Nat.mul_lt_mul_of_pos_right h1 (by omega)) (Nat.mul_le_mul_left _ (by omega))
        go_wp2_with fail
        refine (of_any x (by have := hxb.out; omega) w4).mono ?_
        rintro e w5 ⟨A5, c5, z5, rfl, g5, n5, hb5⟩
        have hz5 := hb5.size
        have hl5 : z5.length ≤ 1 := n5.length_le (by have := hxb.out; omega)
        have g4' := g4.below hb5
        go_wp2_with fail
        refine (add_any c4 c5 w5 g4'.rd g5.rd (by omega) (by omega) n4.dig n5.dig).mono ?_
        rintro e w6 ⟨A6, c6, z6, rfl, g6, n6, hb6⟩
        rw [n4.val, n5.val, hval.out] at n6
        go_wp2
        go_roundg (gk - (m + 1))
        case measure => omega
        case rel => exact ⟨i + (m + 1), _, A6, c6, z6, rfl, htr2.out, by omega, .inr hmod'.out, rfl, gotW_base (gotU_toW g6) (by omega), n6, chain (chain (chain (chain (chain hbw hb2) hb3) hb4) hb5) hb6⟩
  | false =>
    clear hsm
    go_enter Tryz.func164, Tryz.ntmps164
    go_wp2_with fail
    refine htr.out.mono ?_
    rintro e w1 ⟨rfl, hb⟩
    go_wp2
    go_loopg [0, 4] l.length (fun k sv ov wr => ∃ (i : Nat) (t : ByteArray) (A : Option Addr) (c : Nat) (zs : List Nat), sv = .string t ∧ t = ⟨(l.drop i).toArray⟩ ∧ i + k = l.length ∧ (i = 0 ∨ k % 19 = 0) ∧ ov = .slice A zs.length c ∧ GotW wr w.heap.size A c zs ∧ Nrm zs (numV (l.take i)) ∧ Below w.heap.size w wr)
    case atStart => exact ⟨0, s, none, 0, [], rfl, by rw [List.drop_zero]; exact hs.out, by omega, .inl rfl, rfl, .nil _ _, by rw [List.take_zero]; exact .zero, hb⟩
    case round =>
      clear hb h1 h3 h5 htr hz htl hdl
      obtain ⟨i, t, A, c, zs, rfl, ht, hik, hmod, rfl, gz, nz, hbw⟩ := hrel
      have hzw := hbw.size
      obtain ⟨htz, _, htd⟩ := data_of ht
      rw [List.length_drop, show l.length - i = gk by omega] at htz
      have hdi : ∀ c ∈ l.take i, isDig c = true := fun c hc => hk.dig c (List.mem_of_mem_take hc)
      have hzl : zs.length ≤ 2000 := by
        have h1 := numV_lt _ hdi
        have h2 : 10 ^ (l.take i).length ≤ 18446744073709551616 ^ (l.take i).length := Nat.pow_le_pow_left (by omega) _
        have h3 := nz.length_le (Nat.lt_of_lt_of_le h1 h2)
        rw [List.length_take] at h3
        omega
      replace ht := Lib.hid ht
      replace htd := Lib.hid htd
      by_cases hk0 : gk = 0
      · subst hk0
        have hall := List.take_of_length_le (l := l) (i := i) (by omega)
        rw [hall] at nz
        clear hall
        go_wp2
        go_ret2
        exact ⟨⟨A, c, zs, rfl, gz, nz⟩, hbw⟩
      · obtain ⟨m, hm⟩ : ∃ m, (gk - 1) % 19 = m := ⟨_, rfl⟩
        have hm' : ((gk : Int) - 1) % 19 = (m : Int) := by omega
        have hm1 : m < 19 := by omega
        have hm2 : m + 1 ≤ gk := by omega
        have hg1 : 1 ≤ (gk : Int) := by omega
        have hg2 : (gk : Int) ≤ 2000 := by omega
        have hm3 : (m : Int) + 1 ≤ (gk : Int) := by omega
        have htk : (t.extract 0 (m + 1)).data.toList = (l.drop i).take (m + 1) := by rw [ByteArray.data_extract, Array.toList_extract, htd.out]; simp
        have htr2 : t.extract (m + 1) gk = ⟨(l.drop (i + (m + 1))).toArray⟩ := by
          apply ByteArray.ext
          apply Array.toList_inj.1
          rw [ByteArray.data_extract, Array.toList_extract, htd.out]
          simp only [List.extract_eq_take_drop, List.drop_drop]
          rw [List.take_of_length_le (by rw [List.length_drop]; omega)]
        have hcd : ∀ c ∈ (l.drop i).take (m + 1), isDig c = true := fun c hc => hk.dig c (List.mem_of_mem_drop (List.mem_of_mem_take hc))
        have hcl : ((l.drop i).take (m + 1)).length = m + 1 := by rw [List.length_take, List.length_drop]; omega
        have hu := uint_ok (l := (l.drop i).take (m + 1)) (by intro e; rw [e] at hcl; simp at hcl) (by omega) hcd
        rw [← htk] at hu
        have hxb : numV ((l.drop i).take (m + 1)) < 10000000000000000000 := by
          have h1 := numV_lt _ hcd
          have h2 : 10 ^ ((l.drop i).take (m + 1)).length ≤ 10 ^ 19 := Nat.pow_le_pow_right (by omega) (by omega)
          omega
        have hval : numV (l.take i) * 10000000000000000000 + numV ((l.drop i).take (m + 1)) = numV (l.take (i + (m + 1))) := by
          rw [show l.take (i + (m + 1)) = l.take i ++ (l.drop i).take (m + 1) from List.take_add, numV_append, hcl]
          rcases hmod with rfl | h19
          · simp [numV]
          · rw [show m + 1 = 19 by omega]
        have hmod' : (gk - (m + 1)) % 19 = 0 := by omega
        have hpu := Tryz.strconv_ParseUint_10_at64_ok (t.extract 0 (m + 1)) (by rw [Lib.size_eq, htk, hcl]; omega) _ hu wr
        rw [htk] at hpu
        generalize numV ((l.drop i).take (m + 1)) = x at *
        replace hm := Lib.hid hm
        replace htk := Lib.hid htk
        replace htr2 := Lib.hid htr2
        replace hcl := Lib.hid hcl
        replace hxb := Lib.hid hxb
        replace hval := Lib.hid hval
        replace hmod' := Lib.hid hmod'
        replace hpu := Lib.hid hpu
        clear hu hcd hdi hmod
        go_wp2_with fail
        refine hpu.out.mono ?_
        rintro e w2 ⟨rfl, hw2⟩
        have hb2 : Below wr.heap.size wr w2 := by
          rcases hw2 with rfl | rfl
          · exact .refl _ _
          · exact Go.Joins.below_bytesWorld _ wr _ _ (Nat.le_refl _)
        clear hw2
        have hz2 := hb2.size
        have gz2 := gz.below hb2
        go_wp2_with fail
        refine (of_any 10000000000000000000 (by omega) w2).mono ?_
        rintro e w3 ⟨A3, c3, z3, rfl, g3, n3, hb3⟩
        have hz3 := hb3.size
        have gz3 := gz2.below hb3
        have hl3 : z3.length ≤ 1 := n3.length_le (by omega)
        go_wp2_with fail
        refine (mul_any c c3 w3 gz3.rd g3.rd (by omega) (by omega) nz.dig n3.dig).mono ?_
        rintro e w4 ⟨A4, c4, z4, rfl, g4, n4, hb4⟩
        rw [nz.val, n3.val] at n4
        have hz4 := hb4.size
        have hl4 : z4.length ≤ zs.length + 1 := by
          refine n4.length_le ?_
          have h1 := vl_lt nz.dig
          rw [nz.val] at h1
          rw [Nat.pow_succ]
          exact Nat.lt_of_lt_of_le (Nat.mul_lt_mul_of_pos_right h1 (by omega)) (Nat.mul_le_mul_left _ (by omega))
        go_wp2_with fail
        refine (of_any x (by have := hxb.out; omega) w4).mono ?_
        rintro e w5 ⟨A5, c5, z5, rfl, g5, n5, hb5⟩
        have hz5 := hb5.size
        have hl5 : z5.length ≤ 1 := n5.length_le (by have := hxb.out; omega)
        have g4' := g4.below hb5
        go_wp2_with fail
        refine (add_any c4 c5 w5 g4'.rd g5.rd (by omega) (by omega) n4.dig n5.dig).mono ?_
        rintro e w6 ⟨A6, c6, z6, rfl, g6, n6, hb6⟩
        rw [n4.val, n5.val, hval.out] at n6
        go_wp2
        go_roundg (gk - (m + 1))
        case measure => omega
        case rel => exact ⟨i + (m + 1), _, A6, c6, z6, rfl, htr2.out, by omega, .inr hmod'.out, rfl, gotW_base (gotU_toW g6) (by omega), n6, chain (chain (chain (chain (chain hbw hb2) hb3) hb4) hb5) hb6⟩
theorem str_of (s : ByteArray) : s = ⟨s.data.toList.toArray⟩ := by cases s; simp
/-- What Parse tells. -/
theorem parse_any (s : ByteArray) (w : World) (h : POk s.data.toList) :
    Calls Tryz.prog 164 #[.string s] w fun e w' => (∃ A c zs, e = .returned (.tuple #[.slice A (zs : List Nat).length c, .bool true]) ∧ GotW w' w.heap.size A c zs ∧ Nrm zs (numV s.data.toList)) ∧ Below w.heap.size w w' :=
  parse_yes s _ (str_of s) h w
end Go.Proofs.YtncfbleeidjflaaGreatDoor
namespace Go.Proofs.YtncfbleeidjflaaGreatDoor
open Go.RowKit Go.Cal
/-- The value reads as the number N, of k words at most. -/
def IsN (w : World) (v : Value) (k N : Nat) : Prop :=
  ∃ A c zs, v = .slice A (zs : List Nat).length c ∧ RdU w w.heap.size A zs ∧ zs.length ≤ c ∧ zs.length ≤ k ∧ Dig 18446744073709551616 zs ∧ vl 18446744073709551616 zs = N
theorem IsN.below {w w' : World} {v : Value} {k N : Nat} (h : IsN w v k N) (hb : Below w.heap.size w w') : IsN w' v k N := by
  obtain ⟨A, c, zs, h1, h2, h3⟩ := h
  exact ⟨A, c, zs, h1, (h2.below hb).more hb.size, h3⟩
theorem IsN.drawn {w w' : World} {v : Value} {k N : Nat} (h : IsN w v k N) (hd : Drawn w w') : IsN w' v k N := h.below (hd.below _)
theorem IsN.lt {w : World} {v : Value} {k N : Nat} (h : IsN w v k N) : N < 18446744073709551616 ^ k := by
  obtain ⟨A, c, zs, h1, h2, h3, h4, h5, h6⟩ := h
  have h7 := vl_lt h5
  have h8 : 18446744073709551616 ^ zs.length ≤ 18446744073709551616 ^ k := Nat.pow_le_pow_right (by omega) h4
  omega
theorem IsN.nil (w : World) : IsN w (.slice none 0 0) 0 0 := ⟨none, 0, [], rfl, .nil, Nat.le_refl _, Nat.le_refl _, fun x hx => by simp at hx, rfl⟩
theorem IsN.ofW {w : World} {base k N : Nat} {A : Option Addr} {c : Nat} {zs : List Nat} (g : GotW w base A c zs) (n : Nrm zs N) (hk : N < 18446744073709551616 ^ k) : IsN w (.slice A zs.length c) k N :=
  ⟨A, c, zs, rfl, g.rd, g.cap, n.length_le hk, n.dig, n.val⟩
theorem IsN.more {w : World} {v : Value} {k k' N : Nat} (h : IsN w v k N) (hk : k ≤ k') : IsN w v k' N := by
  obtain ⟨A, c, zs, h1, h2, h3, h4, h5⟩ := h
  exact ⟨A, c, zs, h1, h2, h3, by omega, h5⟩
/-- Below B nothing has turned; the values of the list are live. -/
structure Live (B w : World) (l : List (Value × Nat × Nat)) : Prop where
  below : Below B.heap.size B w
  all : ∀ p ∈ l, IsN w p.1 p.2.1 p.2.2
section
variable {B w : World} {l : List (Value × Nat × Nat)}
theorem Live.size (h : Live B w l) : B.heap.size ≤ w.heap.size := h.below.size
theorem Live.start (w : World) : Live w w [] := ⟨.refl _ _, fun p hp => by simp at hp⟩
theorem Live.get (h : Live B w l) {v : Value} {k N : Nat} (hm : (v, k, N) ∈ l) : IsN w v k N := h.all _ hm
theorem Live.go {w' : World} (h : Live B w l) (hb : Below w.heap.size w w') : Live B w' l := ⟨h.below.trans (hb.mono h.size), fun p hp => (h.all p hp).below hb⟩
theorem Live.put {v : Value} {k N : Nat} (h : Live B w l) (hv : IsN w v k N) : Live B w ((v, k, N) :: l) := ⟨h.below, fun p hp => by
  rcases List.mem_cons.1 hp with rfl | hp
  · exact hv
  · exact h.all p hp⟩
theorem Live.keep {l' : List (Value × Nat × Nat)} (h : Live B w l) (hs : ∀ p ∈ l', p ∈ l) : Live B w l' := ⟨h.below, fun p hp => h.all p (hs p hp)⟩
variable {v1 v2 : Value} {k1 k2 X Y : Nat}
end
/-- A slice that the text itself lays. -/
theorem IsN.lit (w : World) (L : List Nat) (cs : Array Value) (hcs : cs = (lU L).toArray) (hd : Dig 18446744073709551616 L) : IsN (w.alloc (.cells cs 22)) (.slice (some ⟨w.heap.size, 0, none⟩) L.length L.length) L.length (vl 18446744073709551616 L) := by
  have hrd := ((BlkU.lit w 22 L cs hcs).rd 0 L.length (by omega)).more (B' := (w.alloc (.cells cs 22)).heap.size) (by simp)
  simp only [List.drop_zero, List.take_length] at hrd
  exact ⟨_, _, L, rfl, hrd, Nat.le_refl _, Nat.le_refl _, hd, rfl⟩
theorem Live.lit {B w : World} {l : List (Value × Nat × Nat)} (h : Live B w l) (L : List Nat) (cs : Array Value) (k N : Nat) (hcs : cs = (lU L).toArray) (hd : L.all (· < 18446744073709551616) = true) (hk : L.length = k) (hv : vl 18446744073709551616 L = N) :
    Live B (w.alloc (.cells cs 22)) ((.slice (some ⟨w.heap.size, 0, none⟩) k k, k, N) :: l) := by
  subst hk; subst hv
  exact (h.go ((Below.refl _ _).alloc (Nat.le_refl _) _)).put (.lit w L cs hcs fun x hx => by simpa using List.all_eq_true.1 hd x hx)
/-- A numeral that is told by its digits. -/
theorem dec_is {l : List UInt8} {N : Nat} (h : numV l = N) (h0 : l ≠ []) (hd : l.all isDig = true) (hh : l.head? = some 48 → l.length = 1) : Lib.decDigits N = l := by
  rw [← h]
  exact dec_numV h0 (fun c hc => List.all_eq_true.1 hd c hc) hh
section
variable {B w : World} {l : List (Value × Nat × Nat)} {v1 v2 : Value} {k1 k2 X Y : Nat}
theorem Live.nil (h : Live B w l) : Live B w ((.slice none 0 0, 0, 0) :: l) := h.put (.nil w)
end
end Go.Proofs.YtncfbleeidjflaaGreatDoor
namespace Go.Proofs.YtncfbleeidjflaaGreatDoor
open Go.RowKit Go.Cal
/-- A slice of words that came in. -/
def ArgN (w : World) (v : Value) : Prop := ∃ A c xs, v = .slice A (xs : List Nat).length c ∧ RdU w w.heap.size A xs ∧ (A = none → c = 0) ∧ xs.length ≤ c ∧ c ≤ maxLen ∧ Dig 18446744073709551616 xs
end Go.Proofs.YtncfbleeidjflaaGreatDoor
namespace Go.Proofs.YtncfbleeidjflaaGreatDoor
open Go.ChangeShapes Go.WideShapes Go.ChangeAt Go.RowKit Go.Cal
theorem laid_out : laidOutB Tryz.prog = true := by kernel_rfl
theorem own : ownKnob Tryz.prog.godebug = none := by kernel_rfl
theorem laidVars_mem {P : Program} {w : World} : ∀ {laid : List (String × DataW Unit)} {ps : List MemPlace}, DataW.LaidVars P w laid ps → ∀ {n : String} {d : DataW Unit}, (n, d) ∈ laid →
    ∃ g t cs fuel p, P.globalNamed n = some g ∧ (P.globals[g]?).map (·.type) = some t ∧ w.var? P n = some cs ∧ DataW.trod (fun _ => ()) P w 0 (fun _ => true) false fuel t cs.toList = some (d, p)
  | [], _, _, _, _, h => by simp at h
  | (n', d') :: r, ps, h, n, d, hm => by
    obtain ⟨g, t, cs, fuel, p, q, h1, h2, h3, h4, h5, _⟩ := h
    rcases List.mem_cons.1 hm with e | hm
    · injection e with e1 e2
      subst e1; subst e2
      exact ⟨g, t, cs, fuel, p, h1, h2, h3, h4⟩
    · exact laidVars_mem h5 hm
theorem tab10_of_laid {W : World} {laid : List (String × DataW Unit)} (h : laidMet Tryz.prog laid W) (hm : ("internal/strconv.uint64pow10", Rows.laid_internal_strconv_uint64pow10) ∈ laid) : Tab10 W := by
  obtain ⟨ps, hl, _⟩ := h
  obtain ⟨g, t, cs, fuel, p, h1, h2, h3, h4⟩ := laidVars_mem hl hm
  obtain rfl := Option.some.inj ((show Tryz.prog.globalNamed "internal/strconv.uint64pow10" = some 5 by kernel_rfl).symm.trans h1)
  obtain rfl := Option.some.inj ((show (Tryz.prog.globals[5]?).map (·.type) = some 252 by kernel_rfl).symm.trans h2)
  have h5 := Lib.cells_of_tab (k := .u64) (zs := Lib.pow10Tab) Tryz.underlying252 Tryz.underlying22 (by kernel_rfl) (by kernel_rfl) h4
  unfold Tab10 Lib.TabIs
  rw [h3, ← h5]
set_option maxRecDepth 100000 in
/-- A slice of words that came in. -/
theorem argN_of {H : Type} {enc : TypeId × Value → H} {W : World} {v : Value} {d : DataW H} {p : List MemPlace} {sp : Nat → Bool} {hd : Bool} {base : Nat}
    (hv : Value.okWide Tryz.prog W .any base 33 v) (h : DataW.Trod enc Tryz.prog W 0 sp hd 33 v d p) (hlt : ∀ x ∈ p, x.block < W.heap.size) : ArgN W v := by
  obtain ⟨a0, len, cap, rfl⟩ := okWide_slice Tryz.underlying33 hv
  obtain ⟨fuel, h⟩ := h
  rcases open_ints Tryz.underlying33 Tryz.underlying22 (by kernel_rfl) h with ⟨h1, _⟩ | ⟨a, len', cap', zs, h1, h2, h3, h4, h5, h6, h7, h8⟩
  · simp [Value.cells] at h1
    obtain ⟨rfl, rfl, rfl⟩ := h1
    exact ⟨none, 0, [], rfl, .nil, fun _ => rfl, Nat.le_refl _, by unfold maxLen; omega, fun x hx => by simp at hx⟩
  · simp [Value.cells] at h1
    obtain ⟨rfl, rfl, rfl⟩ := h1
    have hlz : len ≤ zs.length := by
      rw [h5]; split <;> omega
    have hb : ∀ n ∈ zs, 0 ≤ n ∧ n ≤ 18446744073709551615 := fun n hn => bounds_u64 (h8 n hn)
    have hl : ((zs.take len).map Int.toNat).length = len := by rw [List.length_map, List.length_take]; omega
    refine ⟨some a, cap, (zs.take len).map Int.toNat, by rw [hl], ?_, (fun e => by cases e), by rw [hl]; exact h3, h4, fun x hx => ?_⟩
    · by_cases h0 : len = 0
      · subst h0; exact .nil
      · have h7' := h7
        obtain ⟨b, off, rfl, hc⟩ := ints_at h7 (by omega)
        have hin : MemPlace.cell b off ∈ p := by
          rw [(Prod.mk.inj h6).2]
          exact List.mem_map.2 ⟨0, List.mem_range.2 (by omega), rfl⟩
        refine ⟨.inr ⟨b, off, rfl, hlt _ hin⟩, fun b' off' e i hi => ?_⟩
        injection e with e
        injection e with e1 e2
        subst e1; subst e2
        rw [hl] at hi
        rw [hc i (by omega)]
        have hi2 : i < zs.length := by omega
        have hz := (hb (zs.getD i 0) (by rw [List.getD_eq_getElem?_getD, List.getElem?_eq_getElem hi2]; exact List.getElem_mem _)).1
        have e3 : ((zs.take len).map Int.toNat).getD i 0 = (zs.getD i 0).toNat := by
          simp [List.getD_eq_getElem?_getD, hi, hi2]
        rw [e3, Int.toNat_of_nonneg hz]
    · obtain ⟨n, hn, rfl⟩ := List.mem_map.1 hx
      have := hb n (List.mem_of_mem_take hn)
      omega
end Go.Proofs.YtncfbleeidjflaaGreatDoor
namespace Go.Proofs.YtncfbleeidjflaaGreatDoor
open Go.RowKit Go.Cal
/-- A fact that stays where old memory stays. -/
def Stable (P : World → Prop) : Prop := ∀ w w', P w → Below w.heap.size w w' → P w'
/-- Below B nothing has turned; the facts of the list hold. -/
structure LiveP (B w : World) (l : List (World → Prop)) : Prop where
  below : Below B.heap.size B w
  all : ∀ P ∈ l, Stable P ∧ P w
section
variable {B w w' : World} {l l' : List (World → Prop)} {P : World → Prop}
theorem LiveP.start (w : World) : LiveP w w [] := ⟨.refl _ _, fun p hp => by simp at hp⟩
theorem LiveP.size (h : LiveP B w l) : B.heap.size ≤ w.heap.size := h.below.size
theorem LiveP.get (h : LiveP B w l) (hm : P ∈ l) : P w := (h.all _ hm).2
theorem LiveP.go (h : LiveP B w l) (hb : Below w.heap.size w w') : LiveP B w' l := ⟨h.below.trans (hb.mono h.size), fun p hp => ⟨(h.all p hp).1, (h.all p hp).1 _ _ (h.all p hp).2 hb⟩⟩
theorem LiveP.put (h : LiveP B w l) (hs : Stable P) (hv : P w) : LiveP B w (P :: l) := ⟨h.below, fun p hp => by
  rcases List.mem_cons.1 hp with rfl | hp
  · exact ⟨hs, hv⟩
  · exact h.all p hp⟩
theorem LiveP.keep (h : LiveP B w l) (hs : ∀ p ∈ l', p ∈ l) : LiveP B w l' := ⟨h.below, fun p hp => h.all p (hs p hp)⟩
end
/-- The value reads as the number N: its words have no noughts at the end. -/
def IsT (w : World) (v : Value) (k N : Nat) : Prop :=
  ∃ A c zs, v = .slice A (zs : List Nat).length c ∧ RdU w w.heap.size A zs ∧ zs.length ≤ c ∧ c ≤ maxLen ∧ zs.length ≤ k ∧ Nrm zs N
theorem IsT.below {w w' : World} {v : Value} {k N : Nat} (h : IsT w v k N) (hb : Below w.heap.size w w') : IsT w' v k N := by
  obtain ⟨A, c, zs, h1, h2, h3⟩ := h
  exact ⟨A, c, zs, h1, (h2.below hb).more hb.size, h3⟩
theorem IsT.isN {w : World} {v : Value} {k N : Nat} (h : IsT w v k N) : IsN w v k N := by
  obtain ⟨A, c, zs, h1, h2, h3, h4, h5, h6⟩ := h
  exact ⟨A, c, zs, h1, h2, h3, h5, h6.dig, h6.val⟩
theorem IsT.ofW {w : World} {base k N : Nat} {A : Option Addr} {c : Nat} {zs : List Nat} (g : GotW w base A c zs) (n : Nrm zs N) (hk : N < 18446744073709551616 ^ k) : IsT w (.slice A zs.length c) k N :=
  ⟨A, c, zs, rfl, g.rd, g.cap, g.small, n.length_le hk, n⟩
def pN (v : Value) (k N : Nat) (w : World) : Prop := IsN w v k N
def pT (v : Value) (k N : Nat) (w : World) : Prop := IsT w v k N
theorem pN_st (v : Value) (k N : Nat) : Stable (pN v k N) := fun _ _ h hb => IsN.below h hb
theorem pT_st (v : Value) (k N : Nat) : Stable (pT v k N) := fun _ _ h hb => IsT.below h hb
/-- A call tells one number. -/
def TellsT (w : World) (k N : Nat) (e : Ending) (w' : World) : Prop := ∃ v, e = .returned v ∧ pT v k N w' ∧ Below w.heap.size w w'
section
variable {w : World} {v1 v2 : Value} {k1 k2 X Y : Nat}
theorem tellsT_of_retN {N k : Nat} {e : Ending} {w' : World} (hk : N < 18446744073709551616 ^ k) (hr : RetN w N e w') : TellsT w k N e w' := by
  obtain ⟨A, c, zs, rfl, g, n, hb⟩ := hr
  exact ⟨_, rfl, .ofW (gotU_toW g) n hk, hb⟩
theorem tellsT_of_retW {N k : Nat} {e : Ending} {w' : World} (hk : N < 18446744073709551616 ^ k) (hr : RetW w N e w') : TellsT w k N e w' := by
  obtain ⟨A, c, zs, rfl, g, n, hb⟩ := hr
  exact ⟨_, rfl, .ofW g n hk, hb⟩
theorem mul_t (h1 : IsN w v1 k1 X) (h2 : IsN w v2 k2 Y) (b1 : k1 ≤ 1048576) (b2 : k2 ≤ 1048576) : Calls Tryz.prog 47 #[v1, v2] w (TellsT w (k1 + k2) (X * Y)) := by
  have i1 := h1.lt
  have i2 := h2.lt
  obtain ⟨A1, c1, z1, rfl, r1, hc1, hl1, d1, rfl⟩ := h1
  obtain ⟨A2, c2, z2, rfl, r2, hc2, hl2, d2, rfl⟩ := h2
  refine (mul_any c1 c2 w r1 r2 (by omega) (by omega) d1 d2).mono fun e w' hr => tellsT_of_retN ?_ hr
  rw [Nat.pow_add]
  exact Nat.mul_lt_mul'' i1 i2
theorem cmp_t (h1 : IsN w v1 k1 X) (h2 : IsN w v2 k2 Y) (b1 : k1 ≤ 1048576) (b2 : k2 ≤ 1048576) : Calls Tryz.prog 21 #[v1, v2] w fun e w' => e = .returned (.int .i64 (cmpV (X : Int) (Y : Int))) ∧ Below w.heap.size w w' := by
  obtain ⟨A1, c1, z1, rfl, r1, hc1, hl1, d1, rfl⟩ := h1
  obtain ⟨A2, c2, z2, rfl, r2, hc2, hl2, d2, rfl⟩ := h2
  exact (cmp_any c1 c2 w r1 r2 hc1 hc2 (by omega) (by omega) d1 d2).mono fun e w' ⟨he, hd⟩ => ⟨he, hd.below _⟩
def TellsTD (w : World) (k k' Q R : Nat) (e : Ending) (w' : World) : Prop := ∃ v v', e = .returned (.tuple #[v, v', .bool true]) ∧ pT v k Q w' ∧ pT v' k' R w' ∧ Below w.heap.size w w'
theorem div_t (h1 : IsN w v1 k1 X) (h2 : IsN w v2 k2 Y) (b1 : k1 ≤ 1048576) (b2 : k2 ≤ 1048576) (h0 : 0 < Y) : Calls Tryz.prog 154 #[v1, v2] w (TellsTD w k1 k2 (X / Y) (X % Y)) := by
  have i1 := h1.lt
  have i2 := h2.lt
  obtain ⟨A1, c1, z1, rfl, r1, hc1, hl1, d1, rfl⟩ := h1
  obtain ⟨A2, c2, z2, rfl, r2, hc2, hl2, d2, rfl⟩ := h2
  refine (div_any c1 c2 w r1 r2 hc1 hc2 (by omega) (by omega) d1 d2).mono fun e w' hr => ?_
  unfold RetDiv at hr
  rw [if_neg (by omega)] at hr
  obtain ⟨A, c, zs, A', c', rs, rfl, g, n, g', n', hb⟩ := hr
  exact ⟨_, _, rfl, .ofW g n (Nat.lt_of_le_of_lt (Nat.div_le_self _ _) i1), .ofW g' n' (Nat.lt_trans (Nat.mod_lt _ h0) i2), hb⟩
theorem shl_t (n : Int) (k' N : Nat) (h1 : IsN w v1 k1 X) (b1 : k1 ≤ 1048576) (hN : X * 2 ^ (min (max n 0) 131072).toNat = N) (hk : N < 18446744073709551616 ^ k') : Calls Tryz.prog 46 #[v1, .int .i64 n] w (TellsT w k' N) := by
  subst hN
  obtain ⟨A1, c1, z1, rfl, r1, hc1, hl1, d1, rfl⟩ := h1
  exact (shl_any c1 n w r1 hc1 (by omega) d1).mono fun e w' hr => tellsT_of_retN hk hr
theorem norm_t (h1 : IsN w v1 k1 X) (b1 : k1 ≤ 1048576) : Calls Tryz.prog 43 #[v1] w (TellsT w k1 X) := by
  have i1 := h1.lt
  obtain ⟨A1, c1, z1, rfl, r1, hc1, hl1, d1, rfl⟩ := h1
  exact (norm_any c1 w r1 hc1 (by omega) d1).mono fun e w' hr => tellsT_of_retW i1 hr
end
theorem of_t (w : World) (n : Nat) (hn : n < 18446744073709551616) : Calls Tryz.prog 96 #[.int .u64 n] w (TellsT w 1 n) :=
  (of_any n hn w).mono fun _ _ hr => tellsT_of_retW (by rw [Nat.pow_one]; exact hn) hr
theorem pow_t (w : World) (base : Nat) (hb : base < 18446744073709551616) (n : Int) (n0 : Nat) (hn : (min (max n 0) 10000).toNat = n0) : Calls Tryz.prog 48 #[.int .u64 base, .int .i64 n] w (TellsT w (n0 + 1) (base ^ n0)) := by
  subst hn
  exact (pow_any base hb n w).mono fun _ _ hr => tellsT_of_retW (Nat.lt_of_le_of_lt (Nat.pow_le_pow_left (Nat.le_of_lt hb) _) (Nat.pow_lt_pow_right (by omega) (Nat.lt_succ_self _))) hr
end Go.Proofs.YtncfbleeidjflaaGreatDoor
