/- The document's half words, ninth part: what a numeral is worth. Conditions: none but a text's reach. -/
import Derived.Test.YtabgfdingdmnlaaGreatDoorTells26
namespace Go.Proofs.YtabgfdingdmnlaaGreatDoor
open Go.RowKit Go.Cal
/-- What Number tells. -/
def NumTells (w : World) (l : List UInt8) (e : Ending) (w' : World) : Prop :=
  ((POk l ∧ ∃ v, e = .returned (.tuple #[v, .bool true]) ∧ pH v l.length (numV l) w') ∨ (¬ POk l ∧ e = .returned (.tuple #[.slice none 0 0, .bool false]))) ∧ Below w.heap.size w w'
theorem lit_ten (w : World) (h : Nat) (hh : w.heap.size = h) : IsH (w.alloc (.cells #[.int .u64 10] 50)) (.slice (some ⟨h, 0, none⟩) 1 1) 1 10 := by
  subst hh
  exact IsH.lit w [10] _ 1 10 rfl (by decide) (fun _ => by simp) rfl (by omega) rfl
theorem lit_word (w : World) (h d : Nat) (hd : Dig 18446744073709551616 [d]) (hh : w.heap.size = h) : IsN (w.alloc (.cells #[.int .u64 (d : Int)] 50)) (.slice (some ⟨h, 0, none⟩) 1 1) 1 d := by
  subst hh
  exact isN_lit w [d] _ 1 d rfl hd rfl (by simp [vl])
theorem chainD {w a : World} (h : Below w.heap.size w a) : Below w.heap.size w a.drew := h.drew
theorem trim_word {w : World} {a : Addr} {d : Nat} (h : IsN w (.slice (some a) 1 1) 1 d) (hd : d < 4294967296) : Calls Tryz.prog 56 #[.slice (some a) 1 1] w fun e w' => ∃ v, e = .returned v ∧ pH v 1 d w' ∧ w = w' := by
  obtain ⟨A, c, zs, he, hr, h1, h2, h3, h4⟩ := h
  injection he with e1 e2 e3
  subst e1; subst e3
  obtain ⟨x, rfl⟩ : ∃ x, zs = [x] := by
    match zs, e2 with
    | [x], _ => exact ⟨x, rfl⟩
  have hx : x = d := by simpa [vl] using h4
  subst hx
  have ht := rtrim_any 1 w hr (Nat.le_refl _) (by simp) (fun e => by cases e)
  refine ht.mono ?_
  rintro e w' ⟨⟨ys, rfl, ⟨m, rfl⟩, htop, hv⟩, rfl⟩
  have hk : Dig 4294967296 ([x].take m) := fun y hy => by
    have := List.mem_of_mem_take hy
    simp at this; omega
  have hN : NrmH ([x].take m) x := ⟨hk, htop, by rw [hv]; simp [vl]⟩
  exact ⟨_, rfl, ⟨_, _, _, rfl, hr.take m, by rw [List.length_take]; simp; omega, ⟨by unfold maxLen; omega, fun e => by cases e⟩, by rw [List.length_take]; simp; omega, hN⟩, rfl⟩
set_option maxRecDepth 100000 in
set_option maxHeartbeats 4000000 in
theorem number_any (s : ByteArray) (w : World) : Calls Tryz.prog 31 #[.string s] w (NumTells w s.data.toList) := by
  obtain ⟨l, hl⟩ : ∃ l, s.data.toList = l := ⟨_, rfl⟩
  obtain ⟨n, hn⟩ : ∃ n, l.length = n := ⟨_, rfl⟩
  have hsz : s.size = n := by rw [← hn, ← hl]; simp
  have hget : ∀ i (h : i < s.size), s[i] = l.getD i 0 := fun i h => by
    subst hl
    show s.data[i] = _
    have h' : i < s.data.size := h
    rw [List.getD_eq_getElem?_getD, Array.getElem?_toList, Array.getElem?_eq_getElem h']
    rfl
  rw [hl]
  replace hl := Lib.hid hl
  by_cases h0 : n = 0
  · have hs0 : s.size = 0 := by omega
    have hno : ¬ POk l := fun h => h.ne (List.eq_nil_of_length_eq_zero (by omega))
    replace hno := Lib.hid hno
    clear hget
    go_enter Tryz.func31, Tryz.ntmps31
    go_wp2
    go_ret2
    exact ⟨.inr ⟨hno.out, rfl⟩, .refl _ _⟩
  · by_cases h1 : 2000 < n
    · have hs1 : 2000 < (s.size : Int) := by omega
      have hs2 : ¬ (s.size : Int) < 1 := by omega
      have hno : ¬ POk l := fun h => by have := h.len; omega
      replace hno := Lib.hid hno
      clear hget
      go_enter Tryz.func31, Tryz.ntmps31
      go_wp2
      go_ret2
      exact ⟨.inr ⟨hno.out, rfl⟩, .refl _ _⟩
    · have hs1 : ¬ 2000 < (s.size : Int) := by omega
      have hs2 : ¬ (s.size : Int) < 1 := by omega
      have hs3 : 0 < s.size := by omega
      have hg0 := hget 0 hs3
      have hhd : l.head? = some (l.getD 0 0) := by
        match l, hn with
        | [], e => exact absurd e.symm h0
        | x :: l, _ => rfl
      obtain ⟨c, hc⟩ : ∃ c, l.getD 0 0 = c := ⟨_, rfl⟩
      rw [hc] at hg0 hhd
      have hb0 := Below.refl w.heap.size w
      replace hc := Lib.hid hc
      replace hget := Lib.hid hget
      by_cases h48 : c = 48
      · subst h48
        have hg1 : (s[0].toNat : Int) = 48 := by rw [hg0]; rfl
        replace hg0 := Lib.hid hg0
        by_cases hn1 : 1 < n
        · have hs4 : 1 < (s.size : Int) := by omega
          have hno : ¬ POk l := fun h => by have := h.head hhd; omega
          replace hno := Lib.hid hno
          replace hhd := Lib.hid hhd
          go_enter Tryz.func31, Tryz.ntmps31
          go_wp2
          go_ret2
          exact ⟨.inr ⟨hno.out, rfl⟩, .refl _ _⟩
        · have hs4 : ¬ 1 < (s.size : Int) := by omega
          have hhead : l.head? = some 48 → l.length ≤ 1 := fun _ => by omega
          replace hhd := Lib.hid hhd
          replace hhead := Lib.hid hhead
          go_enter Tryz.func31, Tryz.ntmps31
          go_wp2
          clear hg1
          go_loopg [4, 5] n (fun k ov iv wr => ∃ i : Nat, iv = .int .i64 i ∧ i + k = n ∧ pH ov i (numV (l.take i)) wr ∧ (∀ c ∈ l.take i, isDig c = true) ∧ Below w.heap.size w wr)
          case atStart => exact ⟨0, rfl, by omega, by rw [List.take_zero]; exact IsH.lit w [] #[] 0 0 rfl (by decide) (fun h => absurd rfl h) rfl (by omega) rfl, by simp, hb0.alloc (Nat.le_refl _) _⟩
          case round =>
            clear hb0
            obtain ⟨i, rfl, hik, ho, hdg, hbw⟩ := hrel
            have hzw := hbw.size
            by_cases hk0 : gk = 0
            · subst hk0
              have hin : i = n := by omega
              subst hin
              rw [List.take_of_length_le (by omega)] at ho hdg
              have hok : POk l := ⟨fun e => by subst e; simp at hn; omega, by omega, hhead.out, hdg⟩
              replace hok := Lib.hid hok
              replace hdg := Lib.hid hdg
              go_wp2
              go_ret2
              exact ⟨.inl ⟨hok.out, _, rfl, by rw [hn]; exact ho⟩, hbw⟩
            · have hin : i < n := by omega
              have his : i < s.size := by omega
              have hgi := hget.out i his
              have htk : l.take (i + 1) = l.take i ++ [l.getD i 0] := by
                rw [List.take_succ_eq_append_getElem (by omega), List.getD_eq_getElem?_getD, List.getElem?_eq_getElem (by omega)]; rfl
              obtain ⟨c, hcc⟩ : ∃ c, l.getD i 0 = c := ⟨_, rfl⟩
              rw [hcc] at hgi htk
              have hcm : c ∈ l := by rw [← hcc, List.getD_eq_getElem?_getD, List.getElem?_eq_getElem (by omega)]; exact List.getElem_mem _
              by_cases hd : isDig c = true
              · obtain ⟨d, hdc⟩ : ∃ d, c.toNat - 48 = d := ⟨_, rfl⟩
                have hc0 : 48 ≤ c.toNat ∧ c.toNat ≤ 57 := by
                  unfold isDig at hd
                  simpa using hd
                have hdi : (c.toNat : Int) - 48 = (d : Int) := by omega
                have hc1 : ¬ (c.toNat : Int) < 48 := by omega
                have hc2 : ¬ 57 < (c.toNat : Int) := by omega
                have hd9 : d ≤ 9 := by omega
                have hdd : Dig 18446744073709551616 [d] := fun x hx => by simp at hx; omega
                have hnum : numV (l.take i) * 10 + d = numV (l.take (i + 1)) := by rw [htk, numV_snoc, hdc]
                have hdg2 : ∀ c ∈ l.take (i + 1), isDig c = true := fun x hx => by
                  rw [htk] at hx
                  rcases List.mem_append.1 hx with hx | hx
                  · exact hdg x hx
                  · rw [List.mem_singleton] at hx; subst hx; exact hd
                have hpl : numV (l.take i) * 10 + d < 4294967296 ^ (i + 1) := by
                  rw [hnum]
                  have h1 := numV_lt _ hdg2
                  rw [List.length_take, Nat.min_eq_left (by omega)] at h1
                  exact Nat.lt_of_lt_of_le h1 (Nat.pow_le_pow_left (by omega) _)
                have hwd : IntKind.u64.wrap (IntKind.u8.wrap (d : Int)) = (d : Int) := by simp [IntKind.wrap, IntKind.bits, IntKind.signed]; omega
                have hod : IsH wr u4 i (numV (l.take i)) := ho
                generalize numV (l.take i) = N at *
                replace hcc := Lib.hid hcc
                replace hdg := Lib.hid hdg
                replace hd := Lib.hid hd
                replace hc0 := Lib.hid hc0
                replace hdc := Lib.hid hdc
                replace hdg2 := Lib.hid hdg2
                replace hnum := Lib.hid hnum
                replace hpl := Lib.hid hpl
                clear ho
                go_wp2_with fail
                go_region_with (first
                  | (go_at_call 55; refine (times_any _ (k1 := i) (k2 := 1) (X := N) (Y := 10) ?_ ?_ (by omega) (by omega)).mono ?_; (repeat (first | assumption | exact lit_ten _ _ (by simp) | refine IsH.below ?_ ((Below.refl _ _).drew) | refine IsH.below ?_ ((Below.refl _ _).alloc (Nat.le_refl _) _) | refine IsH.below ?_ (by assumption))); (repeat (first | assumption | exact lit_ten _ _ (by simp) | refine IsH.below ?_ ((Below.refl _ _).drew) | refine IsH.below ?_ ((Below.refl _ _).alloc (Nat.le_refl _) _) | refine IsH.below ?_ (by assumption))); rintro e w2 ⟨u2, rfl, hu2, hb2, -⟩; replace hu2 : IsH w2 u2 _ _ := hu2)
                  | (go_at_call 56; refine (trim_word (d := d) ?_ (by omega)).mono ?_; (repeat (first | assumption | exact lit_word _ _ d hdd (by simp) | refine IsN.below ?_ ((Below.refl _ _).drew) | refine IsN.below ?_ ((Below.refl _ _).alloc (Nat.le_refl _) _) | refine IsN.below ?_ (by assumption))); rintro e w3 ⟨u3, rfl, hu3, rfl⟩; replace hu3 : IsH _ u3 _ _ := hu3)
                  | (go_at_call 54; refine (plus_any (i + 1) _ (k1 := i + 1) (k2 := 1) (X := N * 10) (Y := d) ?_ ?_ (by omega) (by omega) hpl.out).mono ?_; (repeat (first | assumption | exact lit_ten _ _ (by simp) | refine IsH.below ?_ ((Below.refl _ _).drew) | refine IsH.below ?_ ((Below.refl _ _).alloc (Nat.le_refl _) _) | refine IsH.below ?_ (by assumption))); (repeat (first | assumption | exact lit_ten _ _ (by simp) | refine IsH.below ?_ ((Below.refl _ _).drew) | refine IsH.below ?_ ((Below.refl _ _).alloc (Nat.le_refl _) _) | refine IsH.below ?_ (by assumption))); rintro e w4 ⟨u4, rfl, hu4, hb4, -⟩))
                all_goals
                  have hbz : Below w.heap.size w w4 := by
                    repeat (first | exact hbw | refine chainA ?_ _ | refine chainD ?_ | refine chain ?_ (by assumption))
                  rw [hnum.out] at hu4
                  clear hb4 hu3
                  go_wp2
                  go_roundg (gk - 1)
                  case measure => omega
                  case rel => exact ⟨i + 1, by go_num, by omega, hu4, hdg2.out, hbz⟩
              · have hno : ¬ POk l := fun h => hd (h.dig c hcm)
                have hcd : (s[i].toNat : Int) < 48 ∨ (¬ (s[i].toNat : Int) < 48 ∧ 57 < (s[i].toNat : Int)) := by
                  rw [hgi]
                  unfold isDig at hd
                  simp at hd
                  omega
                replace hno := Lib.hid hno
                replace hgi := Lib.hid hgi
                replace hcc := Lib.hid hcc
                replace htk := Lib.hid htk
                replace hdg := Lib.hid hdg
                replace hd := Lib.hid hd
                rcases hcd with h | ⟨h, h'⟩
                all_goals
                  go_wp2
                  go_ret2
                  exact ⟨.inr ⟨hno.out, rfl⟩, hbw⟩
      · have hg1 : ¬ (s[0].toNat : Int) = 48 := by
          rw [hg0]
          intro e
          exact h48 (by have : c.toNat = 48 := by omega
                        exact UInt8.toNat_inj.1 this)
        replace hg0 := Lib.hid hg0
        have hhead : l.head? = some 48 → l.length ≤ 1 := fun e => by
          rw [hhd] at e
          exact absurd (by simpa using e) h48
        replace hhd := Lib.hid hhd
        replace hhead := Lib.hid hhead
        · go_enter Tryz.func31, Tryz.ntmps31
          go_wp2
          clear hg1
          go_loopg [4, 5] n (fun k ov iv wr => ∃ i : Nat, iv = .int .i64 i ∧ i + k = n ∧ pH ov i (numV (l.take i)) wr ∧ (∀ c ∈ l.take i, isDig c = true) ∧ Below w.heap.size w wr)
          case atStart => exact ⟨0, rfl, by omega, by rw [List.take_zero]; exact IsH.lit w [] #[] 0 0 rfl (by decide) (fun h => absurd rfl h) rfl (by omega) rfl, by simp, hb0.alloc (Nat.le_refl _) _⟩
          case round =>
            clear hb0
            obtain ⟨i, rfl, hik, ho, hdg, hbw⟩ := hrel
            have hzw := hbw.size
            by_cases hk0 : gk = 0
            · subst hk0
              have hin : i = n := by omega
              subst hin
              rw [List.take_of_length_le (by omega)] at ho hdg
              have hok : POk l := ⟨fun e => by subst e; simp at hn; omega, by omega, hhead.out, hdg⟩
              replace hok := Lib.hid hok
              replace hdg := Lib.hid hdg
              go_wp2
              go_ret2
              exact ⟨.inl ⟨hok.out, _, rfl, by rw [hn]; exact ho⟩, hbw⟩
            · have hin : i < n := by omega
              have his : i < s.size := by omega
              have hgi := hget.out i his
              have htk : l.take (i + 1) = l.take i ++ [l.getD i 0] := by
                rw [List.take_succ_eq_append_getElem (by omega), List.getD_eq_getElem?_getD, List.getElem?_eq_getElem (by omega)]; rfl
              obtain ⟨c, hcc⟩ : ∃ c, l.getD i 0 = c := ⟨_, rfl⟩
              rw [hcc] at hgi htk
              have hcm : c ∈ l := by rw [← hcc, List.getD_eq_getElem?_getD, List.getElem?_eq_getElem (by omega)]; exact List.getElem_mem _
              by_cases hd : isDig c = true
              · obtain ⟨d, hdc⟩ : ∃ d, c.toNat - 48 = d := ⟨_, rfl⟩
                have hc0 : 48 ≤ c.toNat ∧ c.toNat ≤ 57 := by
                  unfold isDig at hd
                  simpa using hd
                have hdi : (c.toNat : Int) - 48 = (d : Int) := by omega
                have hc1 : ¬ (c.toNat : Int) < 48 := by omega
                have hc2 : ¬ 57 < (c.toNat : Int) := by omega
                have hd9 : d ≤ 9 := by omega
                have hdd : Dig 18446744073709551616 [d] := fun x hx => by simp at hx; omega
                have hnum : numV (l.take i) * 10 + d = numV (l.take (i + 1)) := by rw [htk, numV_snoc, hdc]
                have hdg2 : ∀ c ∈ l.take (i + 1), isDig c = true := fun x hx => by
                  rw [htk] at hx
                  rcases List.mem_append.1 hx with hx | hx
                  · exact hdg x hx
                  · rw [List.mem_singleton] at hx; subst hx; exact hd
                have hpl : numV (l.take i) * 10 + d < 4294967296 ^ (i + 1) := by
                  rw [hnum]
                  have h1 := numV_lt _ hdg2
                  rw [List.length_take, Nat.min_eq_left (by omega)] at h1
                  exact Nat.lt_of_lt_of_le h1 (Nat.pow_le_pow_left (by omega) _)
                have hwd : IntKind.u64.wrap (IntKind.u8.wrap (d : Int)) = (d : Int) := by simp [IntKind.wrap, IntKind.bits, IntKind.signed]; omega
                have hod : IsH wr u4 i (numV (l.take i)) := ho
                generalize numV (l.take i) = N at *
                replace hcc := Lib.hid hcc
                replace hdg := Lib.hid hdg
                replace hd := Lib.hid hd
                replace hc0 := Lib.hid hc0
                replace hdc := Lib.hid hdc
                replace hdg2 := Lib.hid hdg2
                replace hnum := Lib.hid hnum
                replace hpl := Lib.hid hpl
                clear ho
                go_wp2_with fail
                go_region_with (first
                  | (go_at_call 55; refine (times_any _ (k1 := i) (k2 := 1) (X := N) (Y := 10) ?_ ?_ (by omega) (by omega)).mono ?_; (repeat (first | assumption | exact lit_ten _ _ (by simp) | refine IsH.below ?_ ((Below.refl _ _).drew) | refine IsH.below ?_ ((Below.refl _ _).alloc (Nat.le_refl _) _) | refine IsH.below ?_ (by assumption))); (repeat (first | assumption | exact lit_ten _ _ (by simp) | refine IsH.below ?_ ((Below.refl _ _).drew) | refine IsH.below ?_ ((Below.refl _ _).alloc (Nat.le_refl _) _) | refine IsH.below ?_ (by assumption))); rintro e w2 ⟨u2, rfl, hu2, hb2, -⟩; replace hu2 : IsH w2 u2 _ _ := hu2)
                  | (go_at_call 56; refine (trim_word (d := d) ?_ (by omega)).mono ?_; (repeat (first | assumption | exact lit_word _ _ d hdd (by simp) | refine IsN.below ?_ ((Below.refl _ _).drew) | refine IsN.below ?_ ((Below.refl _ _).alloc (Nat.le_refl _) _) | refine IsN.below ?_ (by assumption))); rintro e w3 ⟨u3, rfl, hu3, rfl⟩; replace hu3 : IsH _ u3 _ _ := hu3)
                  | (go_at_call 54; refine (plus_any (i + 1) _ (k1 := i + 1) (k2 := 1) (X := N * 10) (Y := d) ?_ ?_ (by omega) (by omega) hpl.out).mono ?_; (repeat (first | assumption | exact lit_ten _ _ (by simp) | refine IsH.below ?_ ((Below.refl _ _).drew) | refine IsH.below ?_ ((Below.refl _ _).alloc (Nat.le_refl _) _) | refine IsH.below ?_ (by assumption))); (repeat (first | assumption | exact lit_ten _ _ (by simp) | refine IsH.below ?_ ((Below.refl _ _).drew) | refine IsH.below ?_ ((Below.refl _ _).alloc (Nat.le_refl _) _) | refine IsH.below ?_ (by assumption))); rintro e w4 ⟨u4, rfl, hu4, hb4, -⟩))
                all_goals
                  have hbz : Below w.heap.size w w4 := by
                    repeat (first | exact hbw | refine chainA ?_ _ | refine chainD ?_ | refine chain ?_ (by assumption))
                  rw [hnum.out] at hu4
                  clear hb4 hu3
                  go_wp2
                  go_roundg (gk - 1)
                  case measure => omega
                  case rel => exact ⟨i + 1, by go_num, by omega, hu4, hdg2.out, hbz⟩
              · have hno : ¬ POk l := fun h => hd (h.dig c hcm)
                have hcd : (s[i].toNat : Int) < 48 ∨ (¬ (s[i].toNat : Int) < 48 ∧ 57 < (s[i].toNat : Int)) := by
                  rw [hgi]
                  unfold isDig at hd
                  simp at hd
                  omega
                replace hno := Lib.hid hno
                replace hgi := Lib.hid hgi
                replace hcc := Lib.hid hcc
                replace htk := Lib.hid htk
                replace hdg := Lib.hid hdg
                replace hd := Lib.hid hd
                rcases hcd with h | ⟨h, h'⟩
                all_goals
                  go_wp2
                  go_ret2
                  exact ⟨.inr ⟨hno.out, rfl⟩, hbw⟩
end Go.Proofs.YtabgfdingdmnlaaGreatDoor
