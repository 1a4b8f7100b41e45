/- The document's half words, ninth part: what a numeral is worth. Conditions: none but a text's reach. -/
/- The document's half words, last part: half words as words. Conditions: a number's half words are counted. -/
import Derived.Test.YtncfbleeidjflaaGreatDoorSu24
import Derived.Test.YtncfbleeidjflaaGreatDoorSu23
namespace Go.Proofs.YtncfbleeidjflaaGreatDoor
open Go.RowKit Go.Cal
/-- What Number tells. -/
def NumTells (w : World) (l : List UInt8) (e : Ending) (w' : World) : Prop :=
  ((POk l ∧ ∃ v, e = .returned (.tuple #[v, .bool true]) ∧ pH v l.length (numV l) w') ∨ (¬ POk l ∧ e = .returned (.tuple #[.slice none 0 0, .bool false]))) ∧ Below w.heap.size w w'
theorem lit_ten (w : World) (h : Nat) (hh : w.heap.size = h) : IsH (w.alloc (.cells #[.int .u64 10] 22)) (.slice (some ⟨h, 0, none⟩) 1 1) 1 10 := by
  subst hh
  exact IsH.lit w [10] _ 1 10 rfl (by decide) (fun _ => by simp) rfl (by omega) rfl
theorem lit_word (w : World) (h d : Nat) (hd : Dig 18446744073709551616 [d]) (hh : w.heap.size = h) : IsN (w.alloc (.cells #[.int .u64 (d : Int)] 22)) (.slice (some ⟨h, 0, none⟩) 1 1) 1 d := by
  subst hh
  exact isN_lit w [d] _ 1 d rfl hd rfl (by simp [vl])
theorem chainD {w a : World} (h : Below w.heap.size w a) : Below w.heap.size w a.drew := h.drew
theorem trim_word {w : World} {a : Addr} {d : Nat} (h : IsN w (.slice (some a) 1 1) 1 d) (hd : d < 4294967296) : Calls Tryz.prog 124 #[.slice (some a) 1 1] w fun e w' => ∃ v, e = .returned v ∧ pH v 1 d w' ∧ w = w' := by
  obtain ⟨A, c, zs, he, hr, h1, h2, h3, h4⟩ := h
  injection he with e1 e2 e3
  subst e1; subst e3
  obtain ⟨x, rfl⟩ : ∃ x, zs = [x] := by
    match zs, e2 with
    | [x], _ => exact ⟨x, rfl⟩
  have hx : x = d := by simpa [vl] using h4
  subst hx
  have ht := rtrim_any 1 w hr (Nat.le_refl _) (by simp) (fun e => by cases e)
  refine ht.mono ?_
  rintro e w' ⟨⟨ys, rfl, ⟨m, rfl⟩, htop, hv⟩, rfl⟩
  have hk : Dig 4294967296 ([x].take m) := fun y hy => by
    have := List.mem_of_mem_take hy
    simp at this; omega
  have hN : NrmH ([x].take m) x := ⟨hk, htop, by rw [hv]; simp [vl]⟩
  exact ⟨_, rfl, ⟨_, _, _, rfl, hr.take m, by rw [List.length_take]; simp; omega, ⟨by unfold maxLen; omega, fun e => by cases e⟩, by rw [List.length_take]; simp; omega, hN⟩, rfl⟩
set_option maxRecDepth 100000 in
set_option maxHeartbeats 4000000 in
theorem number_any (s : ByteArray) (w : World) : Calls Tryz.prog 52 #[.string s] w (NumTells w s.data.toList) := by
  obtain ⟨l, hl⟩ : ∃ l, s.data.toList = l := ⟨_, rfl⟩
  obtain ⟨n, hn⟩ : ∃ n, l.length = n := ⟨_, rfl⟩
  have hsz : s.size = n := by rw [← hn, ← hl]; simp
  have hget : ∀ i (h : i < s.size), s[i] = l.getD i 0 := fun i h => by
    subst hl
    show s.data[i] = _
    have h' : i < s.data.size := h
    rw [List.getD_eq_getElem?_getD, Array.getElem?_toList, Array.getElem?_eq_getElem h']
    rfl
  rw [hl]
  replace hl := Lib.hid hl
  by_cases h0 : n = 0
  · have hs0 : s.size = 0 := by omega
    have hno : ¬ POk l := fun h => h.ne (List.eq_nil_of_length_eq_zero (by omega))
    replace hno := Lib.hid hno
    clear hget
    go_enter Tryz.func52, Tryz.ntmps52
    go_wp2
    go_ret2
    exact ⟨.inr ⟨hno.out, rfl⟩, .refl _ _⟩
  · by_cases h1 : 2000 < n
    · have hs1 : 2000 < (s.size : Int) := by omega
      have hs2 : ¬ (s.size : Int) < 1 := by omega
      have hno : ¬ POk l := fun h => by have := h.len; omega
      replace hno := Lib.hid hno
      clear hget
      go_enter Tryz.func52, Tryz.ntmps52
      go_wp2
      go_ret2
      exact ⟨.inr ⟨hno.out, rfl⟩, .refl _ _⟩
    · have hs1 : ¬ 2000 < (s.size : Int) := by omega
      have hs2 : ¬ (s.size : Int) < 1 := by omega
      have hs3 : 0 < s.size := by omega
      have hg0 := hget 0 hs3
      have hhd : l.head? = some (l.getD 0 0) := by
        match l, hn with
        | [], e => exact absurd e.symm h0
        | x :: l, _ => rfl
      obtain ⟨c, hc⟩ : ∃ c, l.getD 0 0 = c := ⟨_, rfl⟩
      rw [hc] at hg0 hhd
      have hb0 := Below.refl w.heap.size w
      replace hc := Lib.hid hc
      replace hget := Lib.hid hget
      by_cases h48 : c = 48
      · subst h48
        have hg1 : (s[0].toNat : Int) = 48 := by rw [hg0]; rfl
        replace hg0 := Lib.hid hg0
        by_cases hn1 : 1 < n
        · have hs4 : 1 < (s.size : Int) := by omega
          have hno : ¬ POk l := fun h => by have := h.head hhd; omega
          replace hno := Lib.hid hno
          replace hhd := Lib.hid hhd
          go_enter Tryz.func52, Tryz.ntmps52
          go_wp2
          go_ret2
          exact ⟨.inr ⟨hno.out, rfl⟩, .refl _ _⟩
        · have hs4 : ¬ 1 < (s.size : Int) := by omega
          have hhead : l.head? = some 48 → l.length ≤ 1 := fun _ => by omega
          replace hhd := Lib.hid hhd
          replace hhead := Lib.hid hhead
          go_enter Tryz.func52, Tryz.ntmps52
          go_wp2
          clear hg1
          go_loopg [4, 5] n (fun k ov iv wr => ∃ i : Nat, iv = .int .i64 i ∧ i + k = n ∧ pH ov i (numV (l.take i)) wr ∧ (∀ c ∈ l.take i, isDig c = true) ∧ Below w.heap.size w wr)
          case atStart => exact ⟨0, rfl, by omega, by rw [List.take_zero]; exact IsH.lit w [] #[] 0 0 rfl (by decide) (fun h => absurd rfl h) rfl (by omega) rfl, by simp, hb0.alloc (Nat.le_refl _) _⟩
          case round =>
            clear hb0
            obtain ⟨i, rfl, hik, ho, hdg, hbw⟩ := hrel
            have hzw := hbw.size
            by_cases hk0 : gk = 0
            · subst hk0
              have hin : i = n := by omega
              subst hin
              rw [List.take_of_length_le (by omega)] at ho hdg
              have hok : POk l := ⟨fun e => by subst e; simp at hn; omega, by omega, hhead.out, hdg⟩
              replace hok := Lib.hid hok
              replace hdg := Lib.hid hdg
              go_wp2
              go_ret2
              exact ⟨.inl ⟨hok.out, _, rfl, by rw [hn]; exact ho⟩, hbw⟩
            · have hin : i < n := by omega
              have his : i < s.size := by omega
              have hgi := hget.out i his
              have htk : l.take (i + 1) = l.take i ++ [l.getD i 0] := by
                rw [List.take_succ_eq_append_getElem (by omega), List.getD_eq_getElem?_getD, List.getElem?_eq_getElem (by omega)]; rfl
              obtain ⟨c, hcc⟩ : ∃ c, l.getD i 0 = c := ⟨_, rfl⟩
              rw [hcc] at hgi htk
              have hcm : c ∈ l := by rw [← hcc, List.getD_eq_getElem?_getD, List.getElem?_eq_getElem (by omega)]; exact List.getElem_mem _
              by_cases hd : isDig c = true
              · obtain ⟨d, hdc⟩ : ∃ d, c.toNat - 48 = d := ⟨_, rfl⟩
                have hc0 : 48 ≤ c.toNat ∧ c.toNat ≤ 57 := by
                  unfold isDig at hd
                  simpa using hd
                have hdi : (c.toNat : Int) - 48 = (d : Int) := by omega
                have hc1 : ¬ (c.toNat : Int) < 48 := by omega
                have hc2 : ¬ 57 < (c.toNat : Int) := by omega
                have hd9 : d ≤ 9 := by omega
                have hdd : Dig 18446744073709551616 [d] := fun x hx => by simp at hx; omega
                have hnum : numV (l.take i) * 10 + d = numV (l.take (i + 1)) := by rw [htk, numV_snoc, hdc]
                have hdg2 : ∀ c ∈ l.take (i + 1), isDig c = true := fun x hx => by
                  rw [htk] at hx
                  rcases List.mem_append.1 hx with hx | hx
                  · exact hdg x hx
                  · rw [List.mem_singleton] at hx; subst hx; exact hd
                have hpl : numV (l.take i) * 10 + d < 4294967296 ^ (i + 1) := by
                  rw [hnum]
                  have h1 := numV_lt _ hdg2
                  rw [List.length_take, Nat.min_eq_left (by omega)] at h1
                  exact Nat.lt_of_lt_of_le h1 (Nat.pow_le_pow_left (by omega) _)
                have hwd : IntKind.u64.wrap (IntKind.u8.wrap (d : Int)) = (d : Int) := by simp [IntKind.wrap, IntKind.bits, IntKind.signed]; omega
                have hod : IsH wr u4 i (numV (l.take i)) := ho
                generalize numV (l.take i) = N at *
                replace hcc := Lib.hid hcc
                replace hdg := Lib.hid hdg
                replace hd := Lib.hid hd
                replace hc0 := Lib.hid hc0
                replace hdc := Lib.hid hdc
                replace hdg2 := Lib.hid hdg2
                replace hnum := Lib.hid hnum
                replace hpl := Lib.hid hpl
                clear ho
                go_wp2_with fail
                go_region_with (first
                  | (go_at_call 126; refine (times_any _ (k1 := i) (k2 := 1) (X := N) (Y := 10) ?_ ?_ (by omega) (by omega)).mono ?_; (repeat (first | assumption | exact lit_ten _ _ (by simp) | refine IsH.below ?_ ((Below.refl _ _).drew) | refine IsH.below ?_ ((Below.refl _ _).alloc (Nat.le_refl _) _) | refine IsH.below ?_ (by assumption))); (repeat (first | assumption | exact lit_ten _ _ (by simp) | refine IsH.below ?_ ((Below.refl _ _).drew) | refine IsH.below ?_ ((Below.refl _ _).alloc (Nat.le_refl _) _) | refine IsH.below ?_ (by assumption))); rintro e w2 ⟨u2, rfl, hu2, hb2, -⟩; replace hu2 : IsH w2 u2 _ _ := hu2)
                  | (go_at_call 124; refine (trim_word (d := d) ?_ (by omega)).mono ?_; (repeat (first | assumption | exact lit_word _ _ d hdd (by simp) | refine IsN.below ?_ ((Below.refl _ _).drew) | refine IsN.below ?_ ((Below.refl _ _).alloc (Nat.le_refl _) _) | refine IsN.below ?_ (by assumption))); rintro e w3 ⟨u3, rfl, hu3, rfl⟩; replace hu3 : IsH _ u3 _ _ := hu3)
                  | (go_at_call 125; refine (plus_any (i + 1) _ (k1 := i + 1) (k2 := 1) (X := N * 10) (Y := d) ?_ ?_ (by omega) (by omega) hpl.out).mono ?_; (repeat (first | assumption | exact lit_ten _ _ (by simp) | refine IsH.below ?_ ((Below.refl _ _).drew) | refine IsH.below ?_ ((Below.refl _ _).alloc (Nat.le_refl _) _) | refine IsH.below ?_ (by assumption))); (repeat (first | assumption | exact lit_ten _ _ (by simp) | refine IsH.below ?_ ((Below.refl _ _).drew) | refine IsH.below ?_ ((Below.refl _ _).alloc (Nat.le_refl _) _) | refine IsH.below ?_ (by assumption))); rintro e w4 ⟨u4, rfl, hu4, hb4, -⟩))
                all_goals
                  have hbz : Below w.heap.size w w4 := by
                    repeat (first | exact hbw | refine chainA ?_ _ | refine chainD ?_ | refine chain ?_ (by assumption))
                  rw [hnum.out] at hu4
                  clear hb4 hu3
                  go_wp2
                  go_roundg (gk - 1)
                  case measure => omega
                  case rel => exact ⟨i + 1, by go_num, by omega, hu4, hdg2.out, hbz⟩
              · have hno : ¬ POk l := fun h => hd (h.dig c hcm)
                have hcd : (s[i].toNat : Int) < 48 ∨ (¬ (s[i].toNat : Int) < 48 ∧ 57 < (s[i].toNat : Int)) := by
                  rw [hgi]
                  unfold isDig at hd
                  simp at hd
                  omega
                replace hno := Lib.hid hno
                replace hgi := Lib.hid hgi
                replace hcc := Lib.hid hcc
                replace htk := Lib.hid htk
                replace hdg := Lib.hid hdg
                replace hd := Lib.hid hd
                rcases hcd with h | ⟨h, h'⟩
                all_goals
                  go_wp2
                  go_ret2
                  exact ⟨.inr ⟨hno.out, rfl⟩, hbw⟩
      · have hg1 : ¬ (s[0].toNat : Int) = 48 := by
          rw [hg0]
          intro e
          exact h48 (by have : c.toNat = 48 := by omega
                        exact UInt8.toNat_inj.1 this)
        replace hg0 := Lib.hid hg0
        have hhead : l.head? = some 48 → l.length ≤ 1 := fun e => by
          rw [hhd] at e
          exact absurd (by simpa using e) h48
        replace hhd := Lib.hid hhd
        replace hhead := Lib.hid hhead
        · go_enter Tryz.func52, Tryz.ntmps52
          go_wp2
          clear hg1
          go_loopg [4, 5] n (fun k ov iv wr => ∃ i : Nat, iv = .int .i64 i ∧ i + k = n ∧ pH ov i (numV (l.take i)) wr ∧ (∀ c ∈ l.take i, isDig c = true) ∧ Below w.heap.size w wr)
          case atStart => exact ⟨0, rfl, by omega, by rw [List.take_zero]; exact IsH.lit w [] #[] 0 0 rfl (by decide) (fun h => absurd rfl h) rfl (by omega) rfl, by simp, hb0.alloc (Nat.le_refl _) _⟩
          case round =>
            clear hb0
            obtain ⟨i, rfl, hik, ho, hdg, hbw⟩ := hrel
            have hzw := hbw.size
            by_cases hk0 : gk = 0
            · subst hk0
              have hin : i = n := by omega
              subst hin
              rw [List.take_of_length_le (by omega)] at ho hdg
              have hok : POk l := ⟨fun e => by subst e; simp at hn; omega, by omega, hhead.out, hdg⟩
              replace hok := Lib.hid hok
              replace hdg := Lib.hid hdg
              go_wp2
              go_ret2
              exact ⟨.inl ⟨hok.out, _, rfl, by rw [hn]; exact ho⟩, hbw⟩
            · have hin : i < n := by omega
              have his : i < s.size := by omega
              have hgi := hget.out i his
              have htk : l.take (i + 1) = l.take i ++ [l.getD i 0] := by
                rw [List.take_succ_eq_append_getElem (by omega), List.getD_eq_getElem?_getD, List.getElem?_eq_getElem (by omega)]; rfl
              obtain ⟨c, hcc⟩ : ∃ c, l.getD i 0 = c := ⟨_, rfl⟩
              rw [hcc] at hgi htk
              have hcm : c ∈ l := by rw [← hcc, List.getD_eq_getElem?_getD, List.getElem?_eq_getElem (by omega)]; exact List.getElem_mem _
              by_cases hd : isDig c = true
              · obtain ⟨d, hdc⟩ : ∃ d, c.toNat - 48 = d := ⟨_, rfl⟩
                have hc0 : 48 ≤ c.toNat ∧ c.toNat ≤ 57 := by
                  unfold isDig at hd
                  simpa using hd
                have hdi : (c.toNat : Int) - 48 = (d : Int) := by omega
                have hc1 : ¬ (c.toNat : Int) < 48 := by omega
                have hc2 : ¬ 57 < (c.toNat : Int) := by omega
                have hd9 : d ≤ 9 := by omega
                have hdd : Dig 18446744073709551616 [d] := fun x hx => by simp at hx; omega
                have hnum : numV (l.take i) * 10 + d = numV (l.take (i + 1)) := by rw [htk, numV_snoc, hdc]
                have hdg2 : ∀ c ∈ l.take (i + 1), isDig c = true := fun x hx => by
                  rw [htk] at hx
                  rcases List.mem_append.1 hx with hx | hx
                  · exact hdg x hx
                  · rw [List.mem_singleton] at hx; subst hx; exact hd
                have hpl : numV (l.take i) * 10 + d < 4294967296 ^ (i + 1) := by
                  rw [hnum]
                  have h1 := numV_lt _ hdg2
                  rw [List.length_take, Nat.min_eq_left (by omega)] at h1
                  exact Nat.lt_of_lt_of_le h1 (Nat.pow_le_pow_left (by omega) _)
                have hwd : IntKind.u64.wrap (IntKind.u8.wrap (d : Int)) = (d : Int) := by simp [IntKind.wrap, IntKind.bits, IntKind.signed]; omega
                have hod : IsH wr u4 i (numV (l.take i)) := ho
                generalize numV (l.take i) = N at *
                replace hcc := Lib.hid hcc
                replace hdg := Lib.hid hdg
                replace hd := Lib.hid hd
                replace hc0 := Lib.hid hc0
                replace hdc := Lib.hid hdc
                replace hdg2 := Lib.hid hdg2
                replace hnum := Lib.hid hnum
                replace hpl := Lib.hid hpl
                clear ho
                go_wp2_with fail
                go_region_with (first
                  | (go_at_call 126; refine (times_any _ (k1 := i) (k2 := 1) (X := N) (Y := 10) ?_ ?_ (by omega) (by omega)).mono ?_; (repeat (first | assumption | exact lit_ten _ _ (by simp) | refine IsH.below ?_ ((Below.refl _ _).drew) | refine IsH.below ?_ ((Below.refl _ _).alloc (Nat.le_refl _) _) | refine IsH.below ?_ (by assumption))); (repeat (first | assumption | exact lit_ten _ _ (by simp) | refine IsH.below ?_ ((Below.refl _ _).drew) | refine IsH.below ?_ ((Below.refl _ _).alloc (Nat.le_refl _) _) | refine IsH.below ?_ (by assumption))); rintro e w2 ⟨u2, rfl, hu2, hb2, -⟩; replace hu2 : IsH w2 u2 _ _ := hu2)
                  | (go_at_call 124; refine (trim_word (d := d) ?_ (by omega)).mono ?_; (repeat (first | assumption | exact lit_word _ _ d hdd (by simp) | refine IsN.below ?_ ((Below.refl _ _).drew) | refine IsN.below ?_ ((Below.refl _ _).alloc (Nat.le_refl _) _) | refine IsN.below ?_ (by assumption))); rintro e w3 ⟨u3, rfl, hu3, rfl⟩; replace hu3 : IsH _ u3 _ _ := hu3)
                  | (go_at_call 125; refine (plus_any (i + 1) _ (k1 := i + 1) (k2 := 1) (X := N * 10) (Y := d) ?_ ?_ (by omega) (by omega) hpl.out).mono ?_; (repeat (first | assumption | exact lit_ten _ _ (by simp) | refine IsH.below ?_ ((Below.refl _ _).drew) | refine IsH.below ?_ ((Below.refl _ _).alloc (Nat.le_refl _) _) | refine IsH.below ?_ (by assumption))); (repeat (first | assumption | exact lit_ten _ _ (by simp) | refine IsH.below ?_ ((Below.refl _ _).drew) | refine IsH.below ?_ ((Below.refl _ _).alloc (Nat.le_refl _) _) | refine IsH.below ?_ (by assumption))); rintro e w4 ⟨u4, rfl, hu4, hb4, -⟩))
                all_goals
                  have hbz : Below w.heap.size w w4 := by
                    repeat (first | exact hbw | refine chainA ?_ _ | refine chainD ?_ | refine chain ?_ (by assumption))
                  rw [hnum.out] at hu4
                  clear hb4 hu3
                  go_wp2
                  go_roundg (gk - 1)
                  case measure => omega
                  case rel => exact ⟨i + 1, by go_num, by omega, hu4, hdg2.out, hbz⟩
              · have hno : ¬ POk l := fun h => hd (h.dig c hcm)
                have hcd : (s[i].toNat : Int) < 48 ∨ (¬ (s[i].toNat : Int) < 48 ∧ 57 < (s[i].toNat : Int)) := by
                  rw [hgi]
                  unfold isDig at hd
                  simp at hd
                  omega
                replace hno := Lib.hid hno
                replace hgi := Lib.hid hgi
                replace hcc := Lib.hid hcc
                replace htk := Lib.hid htk
                replace hdg := Lib.hid hdg
                replace hd := Lib.hid hd
                rcases hcd with h | ⟨h, h'⟩
                all_goals
                  go_wp2
                  go_ret2
                  exact ⟨.inr ⟨hno.out, rfl⟩, hbw⟩
end Go.Proofs.YtncfbleeidjflaaGreatDoor
namespace Go.Cal
/-- Half words as words. -/
def wds (H : Nat) : List Nat → List Nat
  | [] => []
  | [x] => [x]
  | x :: y :: l => (x + y * H) :: wds H l
theorem wds_val (H : Nat) : ∀ l, vl (H * H) (wds H l) = vl H l
  | [] => rfl
  | [x] => by simp [wds, vl]
  | x :: y :: l => by
    have ih := wds_val H l
    simp only [wds, vl]
    rw [ih]
    simp only [Nat.mul_add, Nat.mul_assoc, Nat.mul_comm y H, Nat.add_assoc]
theorem wds_len (H : Nat) : ∀ l, (wds H l).length ≤ l.length
  | [] => Nat.le_refl _
  | [x] => Nat.le_refl _
  | x :: y :: l => by have := wds_len H l; simp [wds]; omega
theorem wds_dig {H : Nat} (hH : 0 < H) : ∀ {l : List Nat}, Dig H l → Dig (H * H) (wds H l)
  | [], _ => fun x hx => by simp [wds] at hx
  | [x], h => fun z hz => by
    have hx := h x (by simp)
    simp [wds] at hz
    subst hz
    exact Nat.lt_of_lt_of_le hx (Nat.le_mul_of_pos_right _ hH)
  | x :: y :: l, h => fun z hz => by
    have hx := h x (by simp)
    have hy := h y (by simp)
    simp only [wds, List.mem_cons] at hz
    rcases hz with rfl | hz
    · have : (y + 1) * H ≤ H * H := Nat.mul_le_mul_right _ hy
      rw [Nat.add_mul, Nat.one_mul] at this
      omega
    · exact wds_dig hH (fun q hq => h q (by simp [hq])) z hz
theorem wds_even (H : Nat) : ∀ (j : Nat) (l m : List Nat), l.length = 2 * j → wds H (l ++ m) = wds H l ++ wds H m
  | 0, l, m, h => by
    have : l = [] := List.length_eq_zero_iff.1 (by omega)
    subst this; rfl
  | j + 1, x :: y :: l, m, h => by
    have ih := wds_even H j l m (by simp at h; omega)
    simp only [List.cons_append, wds, ih]
theorem wds_two (H : Nat) (l : List Nat) (j : Nat) (h : 2 * j + 1 < l.length) : wds H (l.take (2 * j)) ++ [l.getD (2 * j) 0 + l.getD (2 * j + 1) 0 * H] = wds H (l.take (2 * (j + 1))) := by
  have e : l.take (2 * (j + 1)) = l.take (2 * j) ++ [l.getD (2 * j) 0, l.getD (2 * j + 1) 0] := by
    have h1 : 2 * (j + 1) = 2 * j + 1 + 1 := by omega
    rw [h1, List.take_succ_eq_append_getElem (by omega), List.take_succ_eq_append_getElem (by omega), List.append_assoc]
    simp [List.getD_eq_getElem?_getD, List.getElem?_eq_getElem (show 2 * j < l.length by omega), List.getElem?_eq_getElem h]
  rw [e, wds_even H j _ _ (by rw [List.length_take]; omega)]
  rfl
theorem wds_one (H : Nat) (l : List Nat) (j : Nat) (h : 2 * j + 1 = l.length) : wds H (l.take (2 * j)) ++ [l.getD (2 * j) 0] = wds H (l.take (2 * (j + 1))) := by
  have e : l.take (2 * (j + 1)) = l.take (2 * j) ++ [l.getD (2 * j) 0] := by
    rw [List.take_of_length_le (by omega)]
    have h1 : l = l.take (2 * j + 1) := (List.take_of_length_le (by omega)).symm
    conv => lhs; rw [h1]
    rw [List.take_succ_eq_append_getElem (by omega)]
    simp [List.getD_eq_getElem?_getD, List.getElem?_eq_getElem (show 2 * j < l.length by omega)]
  rw [e, wds_even H j _ _ (by rw [List.length_take]; omega)]
  rfl
end Go.Cal
namespace Go.Proofs.YtncfbleeidjflaaGreatDoor
open Go.RowKit Go.Cal
/-- What Words tells: a number in words, in new memory. -/
def TellsW (w : World) (N : Nat) (e : Ending) (w' : World) : Prop :=
  ∃ (A : Option Addr) (c : Nat) (zs : List Nat), e = .returned (.slice A zs.length c) ∧ RdU w' w'.heap.size A zs ∧ zs.length ≤ c ∧ c ≤ maxLen ∧ Nrm zs N ∧ (zs = [] ∨ ∃ b off, A = some ⟨b, off, none⟩ ∧ w.heap.size ≤ b) ∧ Below w.heap.size w w'
theorem trim_words {w wr : World} {n N : Nat} {v : Value} {xs : List Nat} (hown : wr.ownsRow w.heap.size 22 1 v n (lU xs)) (hn : n = xs.length) (hb : Below w.heap.size w wr) (hl : xs.length ≤ 1099511627776) (hd : Dig 18446744073709551616 xs) (hv : vl 18446744073709551616 xs = N) :
    Calls Tryz.prog 124 #[v] wr (TellsW w N) := by
  obtain ⟨A, c, rfl, hr, h1, h2, h3, h4⟩ := rd_of_own hown hn
  refine (rtrim_any c wr hr h1 hl h3).mono ?_
  rintro e w1 ⟨⟨zs, rfl, ⟨m, rfl⟩, ht, hv'⟩, rfl⟩
  have hz : Nrm (xs.take m) N := ⟨dig_take hd m, ht, (hv' _).trans hv⟩
  refine ⟨A, c, xs.take m, rfl, hr.take m, by rw [List.length_take]; omega, h2, hz, ?_, hb⟩
  rcases (hr.take m).place with h | ⟨b, off, e, _⟩
  · exact .inl h
  · exact .inr ⟨b, off, e, h4 _ e⟩
set_option maxRecDepth 100000 in
set_option maxHeartbeats 2000000 in
theorem words_any {v1 : Value} {k X : Nat} (w : World) (h1 : IsH w v1 k X) (b1 : k ≤ 1048576) : Calls Tryz.prog 53 #[v1] w (TellsW w X) := by
  obtain ⟨A, c, xs, rfl, hr, hc, hm, hl, hx⟩ := h1
  obtain ⟨i0, hi, hi0, hi1, hi2⟩ := info_parts info_u64
  have hXv := wds_val 4294967296 xs
  have hXd := wds_dig (H := 4294967296) (by omega) hx.dig
  have hXl := wds_len 4294967296 xs
  rw [hx.val] at hXv
  replace hXv : vl 18446744073709551616 (wds 4294967296 xs) = X := hXv
  replace hXd : Dig 18446744073709551616 (wds 4294967296 xs) := hXd
  replace hXv := Lib.hid hXv
  replace hXd := Lib.hid hXd
  go_enter Tryz.func53, Tryz.ntmps53
  go_wp2
  go_loopg [3, 4, 5] (xs.length + 1) (fun g ov iv _ wr => ∃ i j : Nat, iv = .int .i64 i ∧ i = 2 * j ∧ g = xs.length + 1 - i ∧ i ≤ xs.length + 1 ∧ wr.ownsRow w.heap.size 22 1 ov j (lU (wds 4294967296 (xs.take i))) ∧ Below w.heap.size w wr)
  case atStart => exact ⟨0, 0, rfl, rfl, by omega, by omega, by rw [List.take_zero]; exact World.ownsRow_lit w #[] 0 (Nat.le_refl _) (by unfold maxLen; omega) rfl, (Below.refl _ _).alloc (Nat.le_refl _) _⟩
  case round =>
    obtain ⟨i, j, rfl, hij, hgk, hil, hown, hbw⟩ := hrel
    have hzw := hbw.size
    by_cases hend : xs.length ≤ i
    · rw [List.take_of_length_le hend] at hown
      have hjl : j = (wds 4294967296 xs).length := by
        have hlen := hown.1
        rw [lU_len] at hlen
        omega
      have ht := trim_words hown hjl hbw (by omega) hXd.out hXv.out
      have n1 : ¬ (i : Int) < (xs.length : Int) := by omega
      replace ht := Lib.hid ht
      clear hown
      go_wp2_with fail
      refine ht.out.mono ?_
      rintro e w1 ⟨A', c', zs, rfl, g1, g2, g3, g4, g5, g6⟩
      go_wp2
      go_ret
      exact ⟨A', c', zs, rfl, g1, g2, g3, g4, g5, g6⟩
    · have hix : i < xs.length := by omega
      have hjb : j ≤ 2000000 := by omega
      have hii : (i : Int) < (xs.length : Int) := by omega
      obtain ⟨b, off, rfl, hb, hcx⟩ := (hr.below hbw).at hix
      have hx0 := hcx i hix
      obtain ⟨x, hxe⟩ : ∃ x, xs.getD i 0 = x := ⟨_, rfl⟩
      have bx : x < 4294967296 := hxe ▸ dig_getD (by omega) hx.dig i
      rw [hxe] at hx0
      by_cases hi1x : i + 1 < xs.length
      · have hii1 : (i : Int) + 1 < (xs.length : Int) := by omega
        have hy0 := hcx (i + 1) hi1x
        obtain ⟨y, hye⟩ : ∃ x, xs.getD (i + 1) 0 = x := ⟨_, rfl⟩
        have by' : y < 4294967296 := hye ▸ dig_getD (by omega) hx.dig (i + 1)
        rw [hye] at hy0
        have hts := wds_two 4294967296 xs j (by omega)
        rw [← hij, hxe, hye, show 2 * (j + 1) = i + 2 by omega] at hts
        obtain ⟨z, hz⟩ : ∃ z, x + y * 4294967296 = z := ⟨_, rfl⟩
        have hzi : (x : Int) + (y : Int) * 4294967296 = (z : Int) := by omega
        have hzb : z < 18446744073709551616 := by omega
        rw [hz] at hts
        replace hts := Lib.hid hts
        replace hxe := Lib.hid hxe
        replace hye := Lib.hid hye
        replace hz := Lib.hid hz
        replace hij := Lib.hid hij
        clear hcx hr
        go_wp2_with (at_builtin; refine wpList_append_own _ rfl _ _ 32 rfl w.heap.size 22 i0 (.int .u64 0) 1 8 under_u64s hi hi0 hi1 hi2 rfl (by decide) u3 j (lU (wds 4294967296 (xs.take i))) rfl (hown.alloc _) ⟨wr.heap.size, 0, none⟩ 1 1 [.int .u64 z] rfl rfl (one_cell wr 22 _) (fun u hu => by simp at hu; subst hu; rfl) (by unfold maxLen; omega) (by omega) (by simp; omega) ?_)
        intro v' w1 hown' hgr _
        rw [lU_snoc, hts.out] at hown'
        have hb2 := (hbw.alloc hzw (.cells #[.int .u64 (z : Int)] 22)).grown hgr (by simp; omega) (fun j hj => (hown.lt j hj).1)
        clear hown hgr
        go_wp2
        go_roundg (gk - 2)
        case measure => omega
        case rel => exact ⟨i + 2, j + 1, by go_num, by have := hij.out; omega, by omega, by omega, hown', hb2⟩
      · have hii1 : ¬ (i : Int) + 1 < (xs.length : Int) := by omega
        have hts := wds_one 4294967296 xs j (by omega)
        rw [← hij, hxe, show 2 * (j + 1) = i + 2 by omega] at hts
        replace hts := Lib.hid hts
        replace hxe := Lib.hid hxe
        replace hij := Lib.hid hij
        clear hcx hr
        go_wp2_with (at_builtin; refine wpList_append_own _ rfl _ _ 32 rfl w.heap.size 22 i0 (.int .u64 0) 1 8 under_u64s hi hi0 hi1 hi2 rfl (by decide) u3 j (lU (wds 4294967296 (xs.take i))) rfl (hown.alloc _) ⟨wr.heap.size, 0, none⟩ 1 1 [.int .u64 x] rfl rfl (one_cell wr 22 _) (fun u hu => by simp at hu; subst hu; rfl) (by unfold maxLen; omega) (by omega) (by simp; omega) ?_)
        intro v' w1 hown' hgr _
        rw [lU_snoc, hts.out] at hown'
        have hb2 := (hbw.alloc hzw (.cells #[.int .u64 (x : Int)] 22)).grown hgr (by simp; omega) (fun j hj => (hown.lt j hj).1)
        clear hown hgr
        go_wp2
        go_roundg (gk - 2)
        case measure => omega
        case rel => exact ⟨i + 2, j + 1, by go_num, by have := hij.out; omega, by omega, by omega, hown', hb2⟩
end Go.Proofs.YtncfbleeidjflaaGreatDoor
