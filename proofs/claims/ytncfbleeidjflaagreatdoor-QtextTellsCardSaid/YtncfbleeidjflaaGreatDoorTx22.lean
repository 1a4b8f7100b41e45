/- The document's half words, ninth part: what a numeral is worth. Conditions: none but a text's reach. -/
/- The document's Scan, second part: what a number of digits is. Conditions: a text's reach. -/
import Derived.Test.YtncfbleeidjflaaGreatDoorTx15
import Derived.Test.YtncfbleeidjflaaGreatDoorTx21
import Derived.Test.YtncfbleeidjflaaGreatDoorTx18
import Derived.Test.YtncfbleeidjflaaGreatDoorTx20
import Derived.Test.YtncfbleeidjflaaGreatDoorTx03
namespace Go.Proofs.YtncfbleeidjflaaGreatDoor
open Go.RowKit Go.Cal
/-- What Number tells. -/
def NumTells (w : World) (l : List UInt8) (e : Ending) (w' : World) : Prop :=
  ((POk l ∧ ∃ v, e = .returned (.tuple #[v, .bool true]) ∧ pH v l.length (numV l) w') ∨ (¬ POk l ∧ e = .returned (.tuple #[.slice none 0 0, .bool false]))) ∧ Below w.heap.size w w'
theorem lit_ten (w : World) (h : Nat) (hh : w.heap.size = h) : IsH (w.alloc (.cells #[.int .u64 10] 22)) (.slice (some ⟨h, 0, none⟩) 1 1) 1 10 := by
  subst hh
  exact IsH.lit w [10] _ 1 10 rfl (by decide) (fun _ => by simp) rfl (by omega) rfl
theorem lit_word (w : World) (h d : Nat) (hd : Dig 18446744073709551616 [d]) (hh : w.heap.size = h) : IsN (w.alloc (.cells #[.int .u64 (d : Int)] 22)) (.slice (some ⟨h, 0, none⟩) 1 1) 1 d := by
  subst hh
  exact isN_lit w [d] _ 1 d rfl hd rfl (by simp [vl])
theorem chainD {w a : World} (h : Below w.heap.size w a) : Below w.heap.size w a.drew := h.drew
theorem trim_word {w : World} {a : Addr} {d : Nat} (h : IsN w (.slice (some a) 1 1) 1 d) (hd : d < 4294967296) : Calls Tryz.prog 124 #[.slice (some a) 1 1] w fun e w' => ∃ v, e = .returned v ∧ pH v 1 d w' ∧ w = w' := by
  obtain ⟨A, c, zs, he, hr, h1, h2, h3, h4⟩ := h
  injection he with e1 e2 e3
  subst e1; subst e3
  obtain ⟨x, rfl⟩ : ∃ x, zs = [x] := by
    match zs, e2 with
    | [x], _ => exact ⟨x, rfl⟩
  have hx : x = d := by simpa [vl] using h4
  subst hx
  have ht := rtrim_any 1 w hr (Nat.le_refl _) (by simp) (fun e => by cases e)
  refine ht.mono ?_
  rintro e w' ⟨⟨ys, rfl, ⟨m, rfl⟩, htop, hv⟩, rfl⟩
  have hk : Dig 4294967296 ([x].take m) := fun y hy => by
    have := List.mem_of_mem_take hy
    simp at this; omega
  have hN : NrmH ([x].take m) x := ⟨hk, htop, by rw [hv]; simp [vl]⟩
  exact ⟨_, rfl, ⟨_, _, _, rfl, hr.take m, by rw [List.length_take]; simp; omega, ⟨by unfold maxLen; omega, fun e => by cases e⟩, by rw [List.length_take]; simp; omega, hN⟩, rfl⟩
set_option maxRecDepth 100000 in
set_option maxHeartbeats 4000000 in
theorem number_any (s : ByteArray) (w : World) : Calls Tryz.prog 52 #[.string s] w (NumTells w s.data.toList) := by
  obtain ⟨l, hl⟩ : ∃ l, s.data.toList = l := ⟨_, rfl⟩
  obtain ⟨n, hn⟩ : ∃ n, l.length = n := ⟨_, rfl⟩
  have hsz : s.size = n := by rw [← hn, ← hl]; simp
  have hget : ∀ i (h : i < s.size), s[i] = l.getD i 0 := fun i h => by
    subst hl
    show s.data[i] = _
    have h' : i < s.data.size := h
    rw [List.getD_eq_getElem?_getD, Array.getElem?_toList, Array.getElem?_eq_getElem h']
    rfl
  rw [hl]
  replace hl := Lib.hid hl
  by_cases h0 : n = 0
  · have hs0 : s.size = 0 := by omega
    have hno : ¬ POk l := fun h => h.ne (List.eq_nil_of_length_eq_zero (by omega))
    replace hno := Lib.hid hno
    clear hget
    go_enter Tryz.func52, Tryz.ntmps52
    go_wp2
    go_ret2
    exact ⟨.inr ⟨hno.out, rfl⟩, .refl _ _⟩
  · by_cases h1 : 2000 < n
    · have hs1 : 2000 < (s.size : Int) := by omega
      have hs2 : ¬ (s.size : Int) < 1 := by omega
      have hno : ¬ POk l := fun h => by have := h.len; omega
      replace hno := Lib.hid hno
      clear hget
      go_enter Tryz.func52, Tryz.ntmps52
      go_wp2
      go_ret2
      exact ⟨.inr ⟨hno.out, rfl⟩, .refl _ _⟩
    · have hs1 : ¬ 2000 < (s.size : Int) := by omega
      have hs2 : ¬ (s.size : Int) < 1 := by omega
      have hs3 : 0 < s.size := by omega
      have hg0 := hget 0 hs3
      have hhd : l.head? = some (l.getD 0 0) := by
        match l, hn with
        | [], e => exact absurd e.symm h0
        | x :: l, _ => rfl
      obtain ⟨c, hc⟩ : ∃ c, l.getD 0 0 = c := ⟨_, rfl⟩
      rw [hc] at hg0 hhd
      have hb0 := Below.refl w.heap.size w
      replace hc := Lib.hid hc
      replace hget := Lib.hid hget
      by_cases h48 : c = 48
      · subst h48
        have hg1 : (s[0].toNat : Int) = 48 := by rw [hg0]; rfl
        replace hg0 := Lib.hid hg0
        by_cases hn1 : 1 < n
        · have hs4 : 1 < (s.size : Int) := by omega
          have hno : ¬ POk l := fun h => by have := h.head hhd; omega
          replace hno := Lib.hid hno
          replace hhd := Lib.hid hhd
          go_enter Tryz.func52, Tryz.ntmps52
          go_wp2
          go_ret2
          exact ⟨.inr ⟨hno.out, rfl⟩, .refl _ _⟩
        · have hs4 : ¬ 1 < (s.size : Int) := by omega
          have hhead : l.head? = some 48 → l.length ≤ 1 := fun _ => by omega
          replace hhd := Lib.hid hhd
          replace hhead := Lib.hid hhead
          go_enter Tryz.func52, Tryz.ntmps52
          go_wp2
          clear hg1
          go_loopg [4, 5] n (fun k ov iv wr => ∃ i : Nat, iv = .int .i64 i ∧ i + k = n ∧ pH ov i (numV (l.take i)) wr ∧ (∀ c ∈ l.take i, isDig c = true) ∧ Below w.heap.size w wr)
          case atStart => exact ⟨0, rfl, by omega, by rw [List.take_zero]; exact IsH.lit w [] #[] 0 0 rfl (by decide) (fun h => absurd rfl h) rfl (by omega) rfl, by simp, hb0.alloc (Nat.le_refl _) _⟩
          case round =>
            clear hb0
            obtain ⟨i, rfl, hik, ho, hdg, hbw⟩ := hrel
            have hzw := hbw.size
            by_cases hk0 : gk = 0
            · subst hk0
              have hin : i = n := by omega
              subst hin
              rw [List.take_of_length_le (by omega)] at ho hdg
              have hok : POk l := ⟨fun e => by subst e; simp at hn; omega, by omega, hhead.out, hdg⟩
              replace hok := Lib.hid hok
              replace hdg := Lib.hid hdg
              go_wp2
              go_ret2
              exact ⟨.inl ⟨hok.out, _, rfl, by rw [hn]; exact ho⟩, hbw⟩
            · have hin : i < n := by omega
              have his : i < s.size := by omega
              have hgi := hget.out i his
              have htk : l.take (i + 1) = l.take i ++ [l.getD i 0] := by
                rw [List.take_succ_eq_append_getElem (by omega), List.getD_eq_getElem?_getD, List.getElem?_eq_getElem (by omega)]; rfl
              obtain ⟨c, hcc⟩ : ∃ c, l.getD i 0 = c := ⟨_, rfl⟩
              rw [hcc] at hgi htk
              have hcm : c ∈ l := by rw [← hcc, List.getD_eq_getElem?_getD, List.getElem?_eq_getElem (by omega)]; exact List.getElem_mem _
              by_cases hd : isDig c = true
              · obtain ⟨d, hdc⟩ : ∃ d, c.toNat - 48 = d := ⟨_, rfl⟩
                have hc0 : 48 ≤ c.toNat ∧ c.toNat ≤ 57 := by
                  unfold isDig at hd
                  simpa using hd
                have hdi : (c.toNat : Int) - 48 = (d : Int) := by omega
                have hc1 : ¬ (c.toNat : Int) < 48 := by omega
                have hc2 : ¬ 57 < (c.toNat : Int) := by omega
                have hd9 : d ≤ 9 := by omega
                have hdd : Dig 18446744073709551616 [d] := fun x hx => by simp at hx; omega
                have hnum : numV (l.take i) * 10 + d = numV (l.take (i + 1)) := by rw [htk, numV_snoc, hdc]
                have hdg2 : ∀ c ∈ l.take (i + 1), isDig c = true := fun x hx => by
                  rw [htk] at hx
                  rcases List.mem_append.1 hx with hx | hx
                  · exact hdg x hx
                  · rw [List.mem_singleton] at hx; subst hx; exact hd
                have hpl : numV (l.take i) * 10 + d < 4294967296 ^ (i + 1) := by
                  rw [hnum]
                  have h1 := numV_lt _ hdg2
                  rw [List.length_take, Nat.min_eq_left (by omega)] at h1
                  exact Nat.lt_of_lt_of_le h1 (Nat.pow_le_pow_left (by omega) _)
                have hwd : IntKind.u64.wrap (IntKind.u8.wrap (d : Int)) = (d : Int) := by simp [IntKind.wrap, IntKind.bits, IntKind.signed]; omega
                have hod : IsH wr u4 i (numV (l.take i)) := ho
                generalize numV (l.take i) = N at *
                replace hcc := Lib.hid hcc
                replace hdg := Lib.hid hdg
                replace hd := Lib.hid hd
                replace hc0 := Lib.hid hc0
                replace hdc := Lib.hid hdc
                replace hdg2 := Lib.hid hdg2
                replace hnum := Lib.hid hnum
                replace hpl := Lib.hid hpl
                clear ho
                go_wp2_with fail
                go_region_with (first
                  | (go_at_call 126; refine (times_any _ (k1 := i) (k2 := 1) (X := N) (Y := 10) ?_ ?_ (by omega) (by omega)).mono ?_; (repeat (first | assumption | exact lit_ten _ _ (by simp) | refine IsH.below ?_ ((Below.refl _ _).drew) | refine IsH.below ?_ ((Below.refl _ _).alloc (Nat.le_refl _) _) | refine IsH.below ?_ (by assumption))); (repeat (first | assumption | exact lit_ten _ _ (by simp) | refine IsH.below ?_ ((Below.refl _ _).drew) | refine IsH.below ?_ ((Below.refl _ _).alloc (Nat.le_refl _) _) | refine IsH.below ?_ (by assumption))); rintro e w2 ⟨u2, rfl, hu2, hb2, -⟩; replace hu2 : IsH w2 u2 _ _ := hu2)
                  | (go_at_call 124; refine (trim_word (d := d) ?_ (by omega)).mono ?_; (repeat (first | assumption | exact lit_word _ _ d hdd (by simp) | refine IsN.below ?_ ((Below.refl _ _).drew) | refine IsN.below ?_ ((Below.refl _ _).alloc (Nat.le_refl _) _) | refine IsN.below ?_ (by assumption))); rintro e w3 ⟨u3, rfl, hu3, rfl⟩; replace hu3 : IsH _ u3 _ _ := hu3)
                  | (go_at_call 125; refine (plus_any (i + 1) _ (k1 := i + 1) (k2 := 1) (X := N * 10) (Y := d) ?_ ?_ (by omega) (by omega) hpl.out).mono ?_; (repeat (first | assumption | exact lit_ten _ _ (by simp) | refine IsH.below ?_ ((Below.refl _ _).drew) | refine IsH.below ?_ ((Below.refl _ _).alloc (Nat.le_refl _) _) | refine IsH.below ?_ (by assumption))); (repeat (first | assumption | exact lit_ten _ _ (by simp) | refine IsH.below ?_ ((Below.refl _ _).drew) | refine IsH.below ?_ ((Below.refl _ _).alloc (Nat.le_refl _) _) | refine IsH.below ?_ (by assumption))); rintro e w4 ⟨u4, rfl, hu4, hb4, -⟩))
                all_goals
                  have hbz : Below w.heap.size w w4 := by
                    repeat (first | exact hbw | refine chainA ?_ _ | refine chainD ?_ | refine chain ?_ (by assumption))
                  rw [hnum.out] at hu4
                  clear hb4 hu3
                  go_wp2
                  go_roundg (gk - 1)
                  case measure => omega
                  case rel => exact ⟨i + 1, by go_num, by omega, hu4, hdg2.out, hbz⟩
              · have hno : ¬ POk l := fun h => hd (h.dig c hcm)
                have hcd : (s[i].toNat : Int) < 48 ∨ (¬ (s[i].toNat : Int) < 48 ∧ 57 < (s[i].toNat : Int)) := by
                  rw [hgi]
                  unfold isDig at hd
                  simp at hd
                  omega
                replace hno := Lib.hid hno
                replace hgi := Lib.hid hgi
                replace hcc := Lib.hid hcc
                replace htk := Lib.hid htk
                replace hdg := Lib.hid hdg
                replace hd := Lib.hid hd
                rcases hcd with h | ⟨h, h'⟩
                all_goals
                  go_wp2
                  go_ret2
                  exact ⟨.inr ⟨hno.out, rfl⟩, hbw⟩
      · have hg1 : ¬ (s[0].toNat : Int) = 48 := by
          rw [hg0]
          intro e
          exact h48 (by have : c.toNat = 48 := by omega
                        exact UInt8.toNat_inj.1 this)
        replace hg0 := Lib.hid hg0
        have hhead : l.head? = some 48 → l.length ≤ 1 := fun e => by
          rw [hhd] at e
          exact absurd (by simpa using e) h48
        replace hhd := Lib.hid hhd
        replace hhead := Lib.hid hhead
        · go_enter Tryz.func52, Tryz.ntmps52
          go_wp2
          clear hg1
          go_loopg [4, 5] n (fun k ov iv wr => ∃ i : Nat, iv = .int .i64 i ∧ i + k = n ∧ pH ov i (numV (l.take i)) wr ∧ (∀ c ∈ l.take i, isDig c = true) ∧ Below w.heap.size w wr)
          case atStart => exact ⟨0, rfl, by omega, by rw [List.take_zero]; exact IsH.lit w [] #[] 0 0 rfl (by decide) (fun h => absurd rfl h) rfl (by omega) rfl, by simp, hb0.alloc (Nat.le_refl _) _⟩
          case round =>
            clear hb0
            obtain ⟨i, rfl, hik, ho, hdg, hbw⟩ := hrel
            have hzw := hbw.size
            by_cases hk0 : gk = 0
            · subst hk0
              have hin : i = n := by omega
              subst hin
              rw [List.take_of_length_le (by omega)] at ho hdg
              have hok : POk l := ⟨fun e => by subst e; simp at hn; omega, by omega, hhead.out, hdg⟩
              replace hok := Lib.hid hok
              replace hdg := Lib.hid hdg
              go_wp2
              go_ret2
              exact ⟨.inl ⟨hok.out, _, rfl, by rw [hn]; exact ho⟩, hbw⟩
            · have hin : i < n := by omega
              have his : i < s.size := by omega
              have hgi := hget.out i his
              have htk : l.take (i + 1) = l.take i ++ [l.getD i 0] := by
                rw [List.take_succ_eq_append_getElem (by omega), List.getD_eq_getElem?_getD, List.getElem?_eq_getElem (by omega)]; rfl
              obtain ⟨c, hcc⟩ : ∃ c, l.getD i 0 = c := ⟨_, rfl⟩
              rw [hcc] at hgi htk
              have hcm : c ∈ l := by rw [← hcc, List.getD_eq_getElem?_getD, List.getElem?_eq_getElem (by omega)]; exact List.getElem_mem _
              by_cases hd : isDig c = true
              · obtain ⟨d, hdc⟩ : ∃ d, c.toNat - 48 = d := ⟨_, rfl⟩
                have hc0 : 48 ≤ c.toNat ∧ c.toNat ≤ 57 := by
                  unfold isDig at hd
                  simpa using hd
                have hdi : (c.toNat : Int) - 48 = (d : Int) := by omega
                have hc1 : ¬ (c.toNat : Int) < 48 := by omega
                have hc2 : ¬ 57 < (c.toNat : Int) := by omega
                have hd9 : d ≤ 9 := by omega
                have hdd : Dig 18446744073709551616 [d] := fun x hx => by simp at hx; omega
                have hnum : numV (l.take i) * 10 + d = numV (l.take (i + 1)) := by rw [htk, numV_snoc, hdc]
                have hdg2 : ∀ c ∈ l.take (i + 1), isDig c = true := fun x hx => by
                  rw [htk] at hx
                  rcases List.mem_append.1 hx with hx | hx
                  · exact hdg x hx
                  · rw [List.mem_singleton] at hx; subst hx; exact hd
                have hpl : numV (l.take i) * 10 + d < 4294967296 ^ (i + 1) := by
                  rw [hnum]
                  have h1 := numV_lt _ hdg2
                  rw [List.length_take, Nat.min_eq_left (by omega)] at h1
                  exact Nat.lt_of_lt_of_le h1 (Nat.pow_le_pow_left (by omega) _)
                have hwd : IntKind.u64.wrap (IntKind.u8.wrap (d : Int)) = (d : Int) := by simp [IntKind.wrap, IntKind.bits, IntKind.signed]; omega
                have hod : IsH wr u4 i (numV (l.take i)) := ho
                generalize numV (l.take i) = N at *
                replace hcc := Lib.hid hcc
                replace hdg := Lib.hid hdg
                replace hd := Lib.hid hd
                replace hc0 := Lib.hid hc0
                replace hdc := Lib.hid hdc
                replace hdg2 := Lib.hid hdg2
                replace hnum := Lib.hid hnum
                replace hpl := Lib.hid hpl
                clear ho
                go_wp2_with fail
                go_region_with (first
                  | (go_at_call 126; refine (times_any _ (k1 := i) (k2 := 1) (X := N) (Y := 10) ?_ ?_ (by omega) (by omega)).mono ?_; (repeat (first | assumption | exact lit_ten _ _ (by simp) | refine IsH.below ?_ ((Below.refl _ _).drew) | refine IsH.below ?_ ((Below.refl _ _).alloc (Nat.le_refl _) _) | refine IsH.below ?_ (by assumption))); (repeat (first | assumption | exact lit_ten _ _ (by simp) | refine IsH.below ?_ ((Below.refl _ _).drew) | refine IsH.below ?_ ((Below.refl _ _).alloc (Nat.le_refl _) _) | refine IsH.below ?_ (by assumption))); rintro e w2 ⟨u2, rfl, hu2, hb2, -⟩; replace hu2 : IsH w2 u2 _ _ := hu2)
                  | (go_at_call 124; refine (trim_word (d := d) ?_ (by omega)).mono ?_; (repeat (first | assumption | exact lit_word _ _ d hdd (by simp) | refine IsN.below ?_ ((Below.refl _ _).drew) | refine IsN.below ?_ ((Below.refl _ _).alloc (Nat.le_refl _) _) | refine IsN.below ?_ (by assumption))); rintro e w3 ⟨u3, rfl, hu3, rfl⟩; replace hu3 : IsH _ u3 _ _ := hu3)
                  | (go_at_call 125; refine (plus_any (i + 1) _ (k1 := i + 1) (k2 := 1) (X := N * 10) (Y := d) ?_ ?_ (by omega) (by omega) hpl.out).mono ?_; (repeat (first | assumption | exact lit_ten _ _ (by simp) | refine IsH.below ?_ ((Below.refl _ _).drew) | refine IsH.below ?_ ((Below.refl _ _).alloc (Nat.le_refl _) _) | refine IsH.below ?_ (by assumption))); (repeat (first | assumption | exact lit_ten _ _ (by simp) | refine IsH.below ?_ ((Below.refl _ _).drew) | refine IsH.below ?_ ((Below.refl _ _).alloc (Nat.le_refl _) _) | refine IsH.below ?_ (by assumption))); rintro e w4 ⟨u4, rfl, hu4, hb4, -⟩))
                all_goals
                  have hbz : Below w.heap.size w w4 := by
                    repeat (first | exact hbw | refine chainA ?_ _ | refine chainD ?_ | refine chain ?_ (by assumption))
                  rw [hnum.out] at hu4
                  clear hb4 hu3
                  go_wp2
                  go_roundg (gk - 1)
                  case measure => omega
                  case rel => exact ⟨i + 1, by go_num, by omega, hu4, hdg2.out, hbz⟩
              · have hno : ¬ POk l := fun h => hd (h.dig c hcm)
                have hcd : (s[i].toNat : Int) < 48 ∨ (¬ (s[i].toNat : Int) < 48 ∧ 57 < (s[i].toNat : Int)) := by
                  rw [hgi]
                  unfold isDig at hd
                  simp at hd
                  omega
                replace hno := Lib.hid hno
                replace hgi := Lib.hid hgi
                replace hcc := Lib.hid hcc
                replace htk := Lib.hid htk
                replace hdg := Lib.hid hdg
                replace hd := Lib.hid hd
                rcases hcd with h | ⟨h, h'⟩
                all_goals
                  go_wp2
                  go_ret2
                  exact ⟨.inr ⟨hno.out, rfl⟩, hbw⟩
end Go.Proofs.YtncfbleeidjflaaGreatDoor
namespace Go.Proofs.YtncfbleeidjflaaGreatDoor
open Go.RowKit Go.Cal
theorem strL_tail (c : UInt8) (t : List UInt8) (n : Nat) (h : (c :: t).length = n) : (strL (c :: t)).extract 1 n = strL t := by
  unfold strL
  apply ByteArray.ext
  apply Array.toList_inj.1
  rw [ByteArray.data_extract, Array.toList_extract]
  subst h
  simp [List.extract_eq_take_drop]
theorem strL_init (r : List UInt8) (c : UInt8) (m : Nat) (h : r.length = m) : (strL (r ++ [c])).extract 0 m = strL r := by
  unfold strL
  apply ByteArray.ext
  apply Array.toList_inj.1
  rw [ByteArray.data_extract, Array.toList_extract]
  subst h
  simp [List.extract_eq_take_drop]
set_option maxRecDepth 100000 in
set_option maxHeartbeats 4000000 in
theorem rof_any (neg : Bool) (ds : List UInt8) (hd : ∀ c ∈ ds, isDig c = true) (hl : ds.length ≤ 1000000) (k : Int) (hk : -4503599627370496 ≤ k ∧ k ≤ 4503599627370496) (w : World) :
    Calls Tryz.prog 102 #[.agg #[.int .i64 1, .bool neg, .slice none 0 0, .int .i64 0, .int .i64 0, .bool false], .string (strL ds), .int .i64 k] w fun e w' => ∃ v, e = .returned v ∧ pItemN w.heap.size v (itemV neg ds k) w' ∧ Below w.heap.size w w' := by
  go_enter Tryz.func102, Tryz.ntmps102
  go_wp2
  go_loopg [1] ds.length (fun g sv wr => ∃ l, sv = .string (strL l) ∧ g = (l : List UInt8).length ∧ trL l = trL ds ∧ l.length ≤ ds.length ∧ wr = (w.alloc (.cells #[.int .i64 1, .bool neg, .slice none 0 0, .int .i64 0, .int .i64 0, .bool false] 76)).alloc (.cells #[.int .i64 0, .bool false, .slice none 0 0, .int .i64 0, .int .i64 0, .bool false] 76))
  case atStart => exact ⟨ds, rfl, rfl, rfl, Nat.le_refl _, rfl⟩
  case round =>
    obtain ⟨l, rfl, hgl, htr, hll, rfl⟩ := hrel
    have hsz := strL_size l
    by_cases h48 : ∃ t, l = 48 :: t
    · obtain ⟨t, hlt⟩ := h48
      obtain ⟨n, hn⟩ : ∃ n, l.length = n := ⟨_, rfl⟩
      have hn1 : n = t.length + 1 := by rw [← hn, hlt]; rfl
      have hg : ∀ h : 0 < (strL l).size, (strL l)[0] = 48 := fun h => by rw [strL_get, hlt]; rfl
      have hex : (strL l).extract 1 n = strL t := by rw [hlt]; exact strL_tail 48 t n (by rw [← hlt]; exact hn)
      have htt : trL t = trL ds := by rw [← htr, hlt, trL_zero]
      rw [hn] at hsz
      have hn0 : (0 : Int) < (n : Int) := by omega
      have hn0n : 0 < n := by omega
      have htl : t.length < gk ∧ t.length ≤ ds.length ∧ t.length = gk - 1 := by omega
      replace hn1 := Lib.hid hn1
      replace htl := Lib.hid htl
      replace hlt := Lib.hid hlt
      replace htt := Lib.hid htt
      go_wp2
      go_roundg (gk - 1)
      case measure => have := htl.out; omega
      case rel => exact ⟨t, rfl, htl.out.2.2.symm, htt.out, htl.out.2.1, rfl⟩
    · have hla : l = trL ds := by
        rw [← htr]
        match l, h48 with
        | [], _ => rfl
        | c :: t, h => exact (List.dropWhile_cons_of_neg (by simpa using fun e => h ⟨t, by rw [e]⟩)).symm
      obtain ⟨n, hn⟩ : ∃ n, l.length = n := ⟨_, rfl⟩
      rw [hn] at hsz
      have hex : (¬ (0 : Int) < (n : Int) ∧ True) ∨ ((0 : Int) < (n : Int) ∧ ∃ c : UInt8, (∀ h : 0 < (strL l).size, (strL l)[0] = c) ∧ ¬ (c.toNat : Int) = 48) := by
        rcases Nat.eq_zero_or_pos n with h0 | h0
        · exact .inl ⟨by omega, trivial⟩
        · refine .inr ⟨by omega, l.getD 0 0, fun h => strL_get l 0 h, fun e => h48 ?_⟩
          match l, hn with
          | [], h => simp at h; omega
          | c :: t, _ => exact ⟨t, by rw [show c = 48 from UInt8.toNat_inj.1 (by show c.toNat = 48; have : ((c.toNat : Nat) : Int) = 48 := e; omega)]⟩
      clear htr h48 hgl
      replace hla := Lib.hid hla
      replace hn := Lib.hid hn
      rcases hex with ⟨hx1, _⟩ | ⟨hx1, c, hx2, hx3⟩
      all_goals
        go_wp2
        go_loopg [1, 2] n (fun g sv kv wr => ∃ (l2 : List UInt8) (k2 : Int), sv = .string (strL l2) ∧ kv = .int .i64 k2 ∧ g = l2.length ∧ trR l2 = trR l ∧ l2.length ≤ n ∧ k2 + (l2.length : Int) = k + (n : Int) ∧ wr = (w.alloc (.cells #[.int .i64 1, .bool neg, .slice none 0 0, .int .i64 0, .int .i64 0, .bool false] 76)).alloc (.cells #[.int .i64 0, .bool false, .slice none 0 0, .int .i64 0, .int .i64 0, .bool false] 76))
        case atStart => exact ⟨l, k, rfl, rfl, hn.out.symm, rfl, by have := hn.out; omega, by have := hn.out; omega, rfl⟩
        case round =>
          obtain ⟨l2, k2, rfl, rfl, hgl2, htr2, hll2, hk2, rfl⟩ := hrel
          have hsz := strL_size l2
          have hnl := hn.out
          by_cases h48 : ∃ r, l2 = r ++ [48]
          · obtain ⟨r, hlr⟩ := h48
            obtain ⟨m, hm⟩ : ∃ m, r.length = m := ⟨_, rfl⟩
            have hm1 : l2.length = m + 1 := by rw [hlr, List.length_append, hm]; rfl
            have hg : ∀ h : m < (strL l2).size, (strL l2)[m] = 48 := fun h => by
              rw [strL_get, hlr, List.getD_eq_getElem?_getD, ← hm]; simp
            have hex2 : (strL l2).extract 0 m = strL r := by rw [hlr]; exact strL_init r 48 m hm
            have htt : trR r = trR l := by rw [← htr2, hlr]; exact (trR_zeros 1 r).symm
            rw [hm1] at hsz
            have hk3 : -4503599627370497 ≤ k2 := by omega
            have hk4 : k2 ≤ 4503599628370497 := by omega
            have hmb : m ≤ 1000000 := by omega
            have hm0 : (0 : Int) < (m : Int) + 1 := by omega
            have hmm : m < gk ∧ m ≤ n ∧ m = gk - 1 ∧ k2 + 1 + (m : Int) = k + (n : Int) := by omega
            replace hmm := Lib.hid hmm
            replace hm := Lib.hid hm
            replace hm1 := Lib.hid hm1
            replace hlr := Lib.hid hlr
            replace htt := Lib.hid htt
            clear hgl2 hnl htr2 hk2
            go_wp2
            go_roundg (gk - 1)
            case measure => have := hmm.out; omega
            case rel => exact ⟨r, k2 + 1, rfl, by go_num, by have := hmm.out; have := hm.out; omega, htt.out, by have := hmm.out; have := hm.out; omega, by have := hmm.out; rw [hm.out]; omega, rfl⟩
          · obtain ⟨n2, hn2⟩ : ∃ q, l2.length = q := ⟨_, rfl⟩
            have hlb : l2 = trR l := by
              rw [← htr2]
              exact (trR_self (fun e => h48 (List.getLast?_eq_some_iff.1 e))).symm
            have hbe : l2 = trR (trL ds) := by rw [hlb, hla.out]
            have hbd : ∀ c ∈ l2, isDig c = true := by rw [hbe]; exact trLR_digs hd
            have hbh : l2 ≠ [] → l2.head? ≠ some 48 := by rw [hbe]; exact trLR_head
            rw [hn2] at hsz hll2 hk2
            have hI : itemV neg ds k = if l2 = [] then ⟨1, neg, 0, 0, 0, false⟩ else if 1000 ≤ (n2 : Int) + k2 - 1 then ⟨1, neg, 0, 0, 1, false⟩ else if (n2 : Int) + k2 - 1 < -1000 then ⟨1, neg, 0, 0, -1, false⟩
                else if 1990 < n2 then ⟨1, neg, numV (l2.take 1990 ++ [49]), k2 + ((n2 : Int) - 1991), 0, true⟩ else ⟨1, neg, numV l2, k2, 0, false⟩ := by
              unfold itemV
              simp only [← hla.out, ← hlb, hn2]
              have e : k + ((l.length : Int) - (n2 : Int)) = k2 := by rw [hn.out]; omega
              rw [e]
            have hk3 : -4503599627370496 ≤ k2 := by omega
            have hk4 : k2 ≤ 4503599628370496 := by omega
            have hn2b : n2 ≤ 1000000 := by omega
            have hE : (strL l2).toList.isEmpty = l2.isEmpty := by unfold strL; rw [ByteArray.toList_mk]
            have hbw : Below w.heap.size w ((w.alloc (.cells #[.int .i64 1, .bool neg, .slice none 0 0, .int .i64 0, .int .i64 0, .bool false] 76)).alloc (.cells #[.int .i64 0, .bool false, .slice none 0 0, .int .i64 0, .int .i64 0, .bool false] 76)) := ((Below.refl _ _).alloc (Nat.le_refl _) _).alloc (by simp) _
            have hex2 : (¬ (0 : Int) < (n2 : Int) ∧ l2 = []) ∨ ((0 : Int) < (n2 : Int) ∧ l2 ≠ [] ∧ ∃ (m : Nat) (c : UInt8), n2 = m + 1 ∧ (∀ h : m < (strL l2).size, (strL l2)[m] = c) ∧ ¬ (c.toNat : Int) = 48) := by
              rcases List.eq_nil_or_concat l2 with h0 | ⟨r, c, h0⟩
              · exact .inl ⟨by rw [h0] at hn2; simp at hn2; omega, h0⟩
              · rw [List.concat_eq_append] at h0
                have hr : n2 = r.length + 1 := by rw [← hn2, h0, List.length_append]; rfl
                refine .inr ⟨by omega, by rw [h0]; simp, r.length, c, hr, fun h => by rw [strL_get, h0, List.getD_eq_getElem?_getD]; simp, fun e => h48 ⟨r, ?_⟩⟩
                rw [h0, show c = 48 from UInt8.toNat_inj.1 (by show c.toNat = 48; omega)]
            replace hI := Lib.hid hI
            replace hbd := Lib.hid hbd
            replace hbh := Lib.hid hbh
            replace hbe := Lib.hid hbe
            replace hlb := Lib.hid hlb
            replace hn2 := Lib.hid hn2
            clear htr2 h48 hgl2 hk2 hnl hll2
            rcases hex2 with ⟨hy1, hb0⟩ | ⟨hy1, hb0, m, c2, hm2, hy2, hy3⟩
            · have hE1 : (strL l2).toList.isEmpty = true := by rw [hE, hb0]; rfl
              replace hb0 := Lib.hid hb0
              clear hE
              go_wp2
              refine bodyPost_ret (v := .agg #[.int .i64 1, .bool neg, .slice none 0 0, .int .i64 0, .int .i64 0, .bool false]) (by simp [results, Tryz.results102, go_sem]) rfl ⟨_, rfl, ?_, ?_⟩
              · rw [hI.out, if_pos hb0.out]; exact pItemN.nil _ 1 neg _ _ _ _
              · exact ((Below.refl _ _).alloc (Nat.le_refl _) _).alloc (by simp) _
            · have hE1 : (strL l2).toList.isEmpty = false := by rw [hE]; simpa using hb0
              clear hE
              replace hb0 := Lib.hid hb0
              have hm2i : (n2 : Int) - 1 = (m : Int) := by omega
              have hm2b : m ≤ 1000000 := by omega
              subst hm2
              by_cases h1 : 1000 < ((m + 1 : Nat) : Int) + k2
              · have h1' : 1000 < (m : Int) + 1 + k2 := by omega
                go_wp2
                refine bodyPost_ret (v := .agg #[.int .i64 1, .bool neg, .slice none 0 0, .int .i64 0, .int .i64 1, .bool false]) (by simp [results, Tryz.results102, go_sem]) rfl ⟨_, rfl, ?_, ?_⟩
                · rw [hI.out, if_neg hb0.out, if_pos (by omega)]; exact pItemN.nil _ 1 neg _ _ _ _
                · exact ((Below.refl _ _).alloc (Nat.le_refl _) _).alloc (by simp) _
              · have h1' : ¬ 1000 < (m : Int) + 1 + k2 := by omega
                by_cases h2 : ((m + 1 : Nat) : Int) + k2 ≤ -1000
                · have h2' : (m : Int) + 1 + k2 ≤ -1000 := by omega
                  go_wp2
                  refine bodyPost_ret (v := .agg #[.int .i64 1, .bool neg, .slice none 0 0, .int .i64 0, .int .i64 (-1), .bool false]) (by simp [results, Tryz.results102, go_sem]) rfl ⟨_, rfl, ?_, ?_⟩
                  · rw [hI.out, if_neg hb0.out, if_neg (by omega), if_pos (by omega)]; exact pItemN.nil _ 1 neg _ _ _ _
                  · exact ((Below.refl _ _).alloc (Nat.le_refl _) _).alloc (by simp) _
                · have h2' : ¬ (m : Int) + 1 + k2 ≤ -1000 := by omega
                  by_cases h3 : 1990 < m + 1
                  · have h3' : (1990 : Int) < (m : Int) + 1 := by omega
                    have hP := pOk_cut (by rw [hn2.out]; exact h3) hbd.out (hbh.out hb0.out)
                    have hpar := fun w => number_any (strL (l2.take 1990 ++ [49])) w
                    have hext : (strL l2).extract 0 1990 ++ ⟨#[49]⟩ = strL (l2.take 1990 ++ [49]) := by
                      unfold strL
                      apply ByteArray.ext
                      apply Array.toList_inj.1
                      simp
                    have hlen : (l2.take 1990 ++ [49]).length ≤ 2000 := by simp; omega
                    have hx1 : ((strL l2).extract 0 1990).size = 1990 := by rw [ByteArray.size_extract, hsz]; omega
                    have hdc : ∀ c ∈ l2.take 1990 ++ [49], isDig c = true := dig_app (fun c hc => hbd.out c (List.mem_of_mem_take hc)) (fun c hc => by simp at hc; subst hc; decide)
                    have hkc : k2 + (((m + 1 : Nat) : Int) - 1991) = k2 + ((m : Int) + 1) - 1991 := by omega
                    have hbw0 : Below w.heap.size w ((w.alloc (.cells #[.int .i64 1, .bool neg, .slice none 0 0, .int .i64 0, .int .i64 0, .bool true] 76)).alloc (.cells #[.int .i64 0, .bool false, .slice none 0 0, .int .i64 0, .int .i64 0, .bool false] 76)) := ((Below.refl _ _).alloc (Nat.le_refl _) _).alloc (by simp) _
                    replace hpar := Lib.hid hpar
                    replace hdc := Lib.hid hdc
                    replace hkc := Lib.hid hkc
                    replace hP := Lib.hid hP
                    go_wp2_with fail
                    refine (hpar.out _).mono ?_
                    rintro e w2 ⟨⟨_, v2, rfl, hv2⟩ | ⟨hno, _⟩, hb2⟩
                    · have hwd := words_any w2 hv2 (Nat.le_trans hlen (by omega))
                      replace hwd := Lib.hid hwd
                      have hbw2 := chain hbw0 hb2
                      have hz2 : w.heap.size + 1 + 1 ≤ w2.heap.size := by have := hb2.size; simpa using this
                      go_wp2_with fail
                      refine hwd.out.mono ?_
                      rintro e w3 ⟨A, c, zs, rfl, r1, r2, r3, r4, r5, hb3⟩
                      have hb23 := chain hb2 hb3
                      obtain ⟨hc, hf⟩ := bcell hb23
                      simp only [ssize_alloc1] at hc hf
                      have hz3 : w.heap.size + 1 + 1 ≤ w3.heap.size := Nat.le_trans hz2 hb3.size
                      have f4 : ∀ o, w3.frozen? ⟨w.heap.size, o, none⟩ = false := fun o => by rw [hf _ _ (by omega)]; simp
                      have f5 : ∀ o, w3.frozen? ⟨w.heap.size + 1, o, none⟩ = false := fun o => by rw [hf _ _ (by omega)]; simp
                      have c40 : w3.cell? ⟨w.heap.size, 0, none⟩ = some (.int .i64 1) := by rw [hc _ _ (by omega)]; simp
                      have c41 : w3.cell? ⟨w.heap.size, 1, none⟩ = some (.bool neg) := by rw [hc _ _ (by omega)]; simp
                      have c42 : w3.cell? ⟨w.heap.size, 2, none⟩ = some (.slice none 0 0) := by rw [hc _ _ (by omega)]; simp
                      have c43 : w3.cell? ⟨w.heap.size, 3, none⟩ = some (.int .i64 0) := by rw [hc _ _ (by omega)]; simp
                      have c44 : w3.cell? ⟨w.heap.size, 4, none⟩ = some (.int .i64 0) := by rw [hc _ _ (by omega)]; simp
                      have c45 : w3.cell? ⟨w.heap.size, 5, none⟩ = some (.bool true) := by rw [hc _ _ (by omega)]; simp
                      have c50 : w3.cell? ⟨w.heap.size + 1, 0, none⟩ = some (.int .i64 0) := by rw [hc _ _ (by omega)]; simp
                      have c51 : w3.cell? ⟨w.heap.size + 1, 1, none⟩ = some (.bool false) := by rw [hc _ _ (by omega)]; simp
                      have c52 : w3.cell? ⟨w.heap.size + 1, 2, none⟩ = some (.slice none 0 0) := by rw [hc _ _ (by omega)]; simp
                      have c53 : w3.cell? ⟨w.heap.size + 1, 3, none⟩ = some (.int .i64 0) := by rw [hc _ _ (by omega)]; simp
                      have c54 : w3.cell? ⟨w.heap.size + 1, 4, none⟩ = some (.int .i64 0) := by rw [hc _ _ (by omega)]; simp
                      have c55 : w3.cell? ⟨w.heap.size + 1, 5, none⟩ = some (.bool false) := by rw [hc _ _ (by omega)]; simp
                      have hfin := chain hbw2 hb3
                      clear hc hf hb23 hb2 hb3 hbw2
                      go_wp2
                      refine bodyPost_ret (v := .agg #[.int .i64 1, .bool neg, .slice A zs.length c, .int .i64 (k2 + ((m : Int) + 1) - 1991), .int .i64 0, .bool true]) (by simp [results, Tryz.results102, go_sem, c50, c51, c52, c53, c54, c55]) rfl ⟨_, rfl, ?_, ?_⟩
                      · rw [hI.out, if_neg hb0.out, if_neg (by omega), if_neg (by omega), if_pos (by omega), hkc.out]
                        refine ⟨A, c, zs, rfl, ?_, r2, r3, ?_, r4, r5.imp id (fun ⟨b, off, e, h⟩ => ⟨b, off, e, by omega⟩)⟩
                        · simp only [size_setCell]
                          have r5' : zs = [] ∨ ∃ b off, A = some ⟨b, off, none⟩ ∧ w.heap.size + 2 ≤ b := r5.imp id (fun ⟨b, off, e, h⟩ => ⟨b, off, e, by omega⟩)
                          repeat (refine RdU.apart ?_ r5' (by simp; try omega))
                          exact r1
                        · exact len_2000 r4 (numV_lt _ hdc.out) hlen
                      · repeat (refine Below.setCell ?_ (by first | exact Nat.le_refl _ | exact Nat.le_succ _) _)
                        exact hfin
                    · exact absurd hP.out hno
                  · have h3' : ¬ (1990 : Int) < (m : Int) + 1 := by omega
                    have hlen : l2.length ≤ 2000 := by rw [hn2.out]; omega
                    have hP : POk (strL l2).data.toList := ⟨hb0.out, hlen, fun e => absurd e (hbh.out hb0.out), hbd.out⟩
                    have hpar := fun w => number_any (strL l2) w
                    replace hpar := Lib.hid hpar
                    replace hP := Lib.hid hP
                    go_wp2_with fail
                    refine (hpar.out _).mono ?_
                    rintro e w2 ⟨⟨_, v2, rfl, hv2⟩ | ⟨hno, _⟩, hb2⟩
                    · have hwd := words_any w2 hv2 (Nat.le_trans hlen (by omega))
                      replace hwd := Lib.hid hwd
                      have hbw2 := chain hbw hb2
                      have hz2 : w.heap.size + 1 + 1 ≤ w2.heap.size := by have := hb2.size; simpa using this
                      go_wp2_with fail
                      refine hwd.out.mono ?_
                      rintro e w3 ⟨A, c, zs, rfl, r1, r2, r3, r4, r5, hb3⟩
                      have hb23 := chain hb2 hb3
                      obtain ⟨hc, hf⟩ := bcell hb23
                      simp only [ssize_alloc1] at hc hf
                      have hz3 : w.heap.size + 1 + 1 ≤ w3.heap.size := Nat.le_trans hz2 hb3.size
                      have f4 : ∀ o, w3.frozen? ⟨w.heap.size, o, none⟩ = false := fun o => by rw [hf _ _ (by omega)]; simp
                      have f5 : ∀ o, w3.frozen? ⟨w.heap.size + 1, o, none⟩ = false := fun o => by rw [hf _ _ (by omega)]; simp
                      have c40 : w3.cell? ⟨w.heap.size, 0, none⟩ = some (.int .i64 1) := by rw [hc _ _ (by omega)]; simp
                      have c41 : w3.cell? ⟨w.heap.size, 1, none⟩ = some (.bool neg) := by rw [hc _ _ (by omega)]; simp
                      have c42 : w3.cell? ⟨w.heap.size, 2, none⟩ = some (.slice none 0 0) := by rw [hc _ _ (by omega)]; simp
                      have c43 : w3.cell? ⟨w.heap.size, 3, none⟩ = some (.int .i64 0) := by rw [hc _ _ (by omega)]; simp
                      have c44 : w3.cell? ⟨w.heap.size, 4, none⟩ = some (.int .i64 0) := by rw [hc _ _ (by omega)]; simp
                      have c45 : w3.cell? ⟨w.heap.size, 5, none⟩ = some (.bool false) := by rw [hc _ _ (by omega)]; simp
                      have c50 : w3.cell? ⟨w.heap.size + 1, 0, none⟩ = some (.int .i64 0) := by rw [hc _ _ (by omega)]; simp
                      have c51 : w3.cell? ⟨w.heap.size + 1, 1, none⟩ = some (.bool false) := by rw [hc _ _ (by omega)]; simp
                      have c52 : w3.cell? ⟨w.heap.size + 1, 2, none⟩ = some (.slice none 0 0) := by rw [hc _ _ (by omega)]; simp
                      have c53 : w3.cell? ⟨w.heap.size + 1, 3, none⟩ = some (.int .i64 0) := by rw [hc _ _ (by omega)]; simp
                      have c54 : w3.cell? ⟨w.heap.size + 1, 4, none⟩ = some (.int .i64 0) := by rw [hc _ _ (by omega)]; simp
                      have c55 : w3.cell? ⟨w.heap.size + 1, 5, none⟩ = some (.bool false) := by rw [hc _ _ (by omega)]; simp
                      have hfin := chain hbw2 hb3
                      clear hc hf hb23 hb2 hb3 hbw2
                      go_wp2
                      refine bodyPost_ret (v := .agg #[.int .i64 1, .bool neg, .slice A zs.length c, .int .i64 k2, .int .i64 0, .bool false]) (by simp [results, Tryz.results102, go_sem, c50, c51, c52, c53, c54, c55]) rfl ⟨_, rfl, ?_, ?_⟩
                      · rw [hI.out, if_neg hb0.out, if_neg (by omega), if_neg (by omega), if_neg (by omega)]
                        refine ⟨A, c, zs, rfl, ?_, r2, r3, ?_, r4, r5.imp id (fun ⟨b, off, e, h⟩ => ⟨b, off, e, by omega⟩)⟩
                        · simp only [size_setCell]
                          have r5' : zs = [] ∨ ∃ b off, A = some ⟨b, off, none⟩ ∧ w.heap.size + 2 ≤ b := r5.imp id (fun ⟨b, off, e, h⟩ => ⟨b, off, e, by omega⟩)
                          repeat (refine RdU.apart ?_ r5' (by simp; try omega))
                          exact r1
                        · exact len_2000 r4 (numV_lt _ hbd.out) hlen
                      · repeat (refine Below.setCell ?_ (by first | exact Nat.le_refl _ | exact Nat.le_succ _) _)
                        exact hfin
                    · exact absurd hP.out hno
end Go.Proofs.YtncfbleeidjflaaGreatDoor
