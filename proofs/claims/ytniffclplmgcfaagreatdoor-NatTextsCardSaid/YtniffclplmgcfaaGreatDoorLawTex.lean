/- The law NatTexts, walked. Condition: the table of powers reads as it is laid. -/
import Derived.Test.YtniffclplmgcfaaGreatDoorRefK
import Derived.Test.YtniffclplmgcfaaGreatDoorRefJ
namespace Go.Proofs.YtniffclplmgcfaaGreatDoor
open Go.RowKit Go.Cal
theorem pOk_dec {X k : Nat} (h : X < 18446744073709551616 ^ k) (h1 : 1 ≤ k) (h2 : k ≤ 30) : POk (Lib.decDigits X) := by
  have hl := dec_len_bound (u := X) (k := 64 * k) (by rw [Nat.pow_mul]; exact h) (by omega)
  refine ⟨dec_ne X, by omega, fun e => ?_, dec_digs X⟩
  rcases Nat.eq_zero_or_pos X with h0 | h0
  · subst h0
    rw [dec_small (by omega)]
    exact Nat.le_refl _
  · exact absurd e (dec_head h0)
theorem IsT.fit {w : World} {v : Value} {k k' N : Nat} (h : IsT w v k N) (hk : N < 18446744073709551616 ^ k') : IsT w v k' N := by
  obtain ⟨A, c, zs, h1, h2, h3, h4, h5, h6⟩ := h
  exact ⟨A, c, zs, h1, h2, h3, h4, h6.length_le hk, h6⟩
theorem parse_back (w : World) {X : Nat} (h : X < 18446744073709551616 ^ 30) : Calls Tryz.prog 34 #[.string ⟨(Lib.decDigits X).toArray⟩] w (TellsTO w 30 X) :=
  (parse_t w ⟨(Lib.decDigits X).toArray⟩ (pOk_dec h (by omega) (by omega))).mono fun e w' ⟨v, he, hv, hb⟩ => ⟨v, he, by
    have hv2 : IsT w' v (Lib.decDigits X).length (numV (Lib.decDigits X)) := hv
    rw [numV_dec] at hv2
    exact hv2.fit h, hb⟩
theorem number_yes (s : ByteArray) (l : List UInt8) (hl : s.data.toList = l) (hk : POk l) (w : World) :
    Calls Tryz.prog 35 #[.string s] w fun e w' => ∃ v, e = .returned (.tuple #[v, .bool true]) ∧ pH v l.length (numV l) w' ∧ Below w.heap.size w w' := by
  subst hl
  refine (number_any s w).mono ?_
  rintro e w' ⟨⟨_, v, he, hv⟩ | ⟨hn, _⟩, hb⟩
  · exact ⟨v, he, hv, hb⟩
  · exact absurd hk hn
theorem number_not (s : ByteArray) (l : List UInt8) (hl : s.data.toList = l) (hk : ¬ POk l) (w : World) :
    Calls Tryz.prog 35 #[.string s] w fun e w' => e = .returned (.tuple #[.slice none 0 0, .bool false]) ∧ Below w.heap.size w w' := by
  subst hl
  refine (number_any s w).mono ?_
  rintro e w' ⟨⟨hy, _⟩ | ⟨_, he⟩, hb⟩
  · exact absurd hy hk
  · exact ⟨he, hb⟩
set_option maxRecDepth 100000 in
set_option maxHeartbeats 1000000 in
theorem natTexts_any (v1 : Value) (s0 : ByteArray) (w : World) (hT : Tab10 w) (ha1 : ArgN w v1) (_hs : s0.size ≤ maxLen) :
    Calls Tryz.prog 5 #[v1, .string s0] w fun e w' => e = .returned (.bool true) ∧ Below w.heap.size w w' := by
  obtain ⟨m, hm⟩ : ∃ m : Nat, min (s0.size : Int) 200 = (m : Int) := ⟨min s0.size 200, by omega⟩
  have hm1 : m ≤ s0.size := by omega
  have hm2 : m ≤ 200 := by omega
  obtain ⟨s, hse⟩ : ∃ s, s0.extract 0 m = s := ⟨_, rfl⟩
  have hsz : s.size = m := by rw [← hse]; simp; omega
  obtain ⟨l, hl⟩ : ∃ l, s.data.toList = l := ⟨_, rfl⟩
  have hll : l.length = m := by rw [← hl, ← hsz]; simp
  have hsl : s = ⟨l.toArray⟩ := by
    subst hl
    apply ByteArray.ext
    simp
  replace hl := Lib.hid hl
  replace hsl := Lib.hid hsl
  go_enter Tryz.func5, Tryz.ntmps5
  have hL := LiveP.start w
  go_wp2_with fail; refine (shown_any w hT).mono ?_; rintro e w1 ⟨rfl, hb⟩; replace hL := hL.go hb; clear hb
  go_wp2_with fail; refine (few_t 30 hL.below ha1 (by decide) (by decide)).mono ?_; rintro e w1 ⟨a, X, rfl, hv, hb⟩; replace hL := (hL.go hb).put (pN_st _ _ _) hv; clear hb hv
  go_wp2_with fail; refine (halves_any _ (hL.get (P := pN a 30 X) (by repeat (first | exact List.mem_cons_self | apply List.mem_cons_of_mem))) (by decide)).mono ?_; rintro e w1 ⟨x, rfl, hv, hb, -⟩; replace hL := (hL.go hb).put (pH_st _ _ _) hv; clear hb hv
  go_wp2_with fail; refine (text_t (hT.below hL.below) (hL.get (P := pN a 30 X) (by repeat (first | exact List.mem_cons_self | apply List.mem_cons_of_mem))) (by decide)).mono ?_; rintro e w1 ⟨rfl, hb⟩; replace hL := hL.go hb; clear hb
  have hXb := IsN.lt (hL.get (P := pN a 30 X) (by repeat (first | exact List.mem_cons_self | apply List.mem_cons_of_mem)))
  replace hXb := Lib.hid hXb
  go_wp2_with fail; refine (parse_back _ hXb.out).mono ?_; rintro e w1 ⟨b, rfl, hv, hb⟩; replace hL := (hL.go hb).put (pT_st _ _ _) hv; clear hb hv
  by_cases hk : POk l
  · have hp : POk s.data.toList := by rw [hl.out]; exact hk
    have hnv : Lib.decDigits (numV l) = l := dec_numV hk.ne hk.dig (fun e => by have := hk.head e; have := List.length_pos_iff.2 hk.ne; omega)
    have hpc := fun w => parse_t w s hp
    have hlb := hk.len
    rw [hl.out] at hpc
    replace hpc := Lib.hid hpc
    replace hk := Lib.hid hk
    replace hnv := Lib.hid hnv
    clear hp
    · go_wp2_with fail; refine (hpc.out _).mono ?_; rintro e w1 ⟨c, rfl, hv, hb⟩; replace hL := (hL.go hb).put (pT_st _ _ _) hv; clear hb hv
      go_wp2_with fail; refine (number_yes s l hl.out hk.out _).mono ?_; rintro e w1 ⟨d, rfl, hv, hb⟩; replace hL := (hL.go hb).put (pH_st _ _ _) hv; clear hb hv
      go_wp2_with fail; refine (digits_any _ (hL.get (P := pH x (2 * 30) X) (by repeat (first | exact List.mem_cons_self | apply List.mem_cons_of_mem))) (by decide)).mono ?_; rintro e w1 ⟨rfl, hb⟩; replace hL := hL.go hb; clear hb
      go_wp2_with fail; refine (same_t _ (k1 := 30) (k2 := (2 * 30)) (N := X) (hL.get (P := pT b 30 (X)) (by repeat (first | exact List.mem_cons_self | apply List.mem_cons_of_mem))) (hL.get (P := pH x (2 * 30) (X)) (by repeat (first | exact List.mem_cons_self | apply List.mem_cons_of_mem))) (by decide) (by decide)).mono ?_; rintro e w1 ⟨rfl, hb⟩; replace hL := hL.go hb; clear hb
      go_wp2_with fail; refine (same_t _ (k1 := l.length) (k2 := l.length) (N := numV l) (hL.get (P := pT c l.length (numV l)) (by repeat (first | exact List.mem_cons_self | apply List.mem_cons_of_mem))) (hL.get (P := pH d l.length (numV l)) (by repeat (first | exact List.mem_cons_self | apply List.mem_cons_of_mem))) (by omega) (by omega)).mono ?_; rintro e w1 ⟨rfl, hb⟩; replace hL := hL.go hb; clear hb
      have htx := text_t (hT.below hL.below) (IsT.isN (hL.get (P := pT c l.length (numV l)) (by repeat (first | exact List.mem_cons_self | apply List.mem_cons_of_mem)))) (by omega)
      rw [hnv.out, ← hsl.out] at htx
      go_wp2_with fail; refine (htx).mono ?_; rintro e w1 ⟨rfl, hb⟩; replace hL := hL.go hb; clear hb
      go_wp2
      go_ret
      exact ⟨rfl, hL.below⟩
  · have hp : ¬ POk s.data.toList := by rw [hl.out]; exact hk
    have hpn := fun w => parse_no s w (by unfold maxLen; omega) hp
    replace hpn := Lib.hid hpn
    replace hk := Lib.hid hk
    clear hp
    · go_wp2_with fail; refine (hpn.out _).mono ?_; rintro e w1 ⟨rfl, hb⟩; replace hL := hL.go hb; clear hb
      go_wp2_with fail; refine (number_not s l hl.out hk.out _).mono ?_; rintro e w1 ⟨rfl, hb⟩; replace hL := hL.go hb; clear hb
      go_wp2_with fail; refine (digits_any _ (hL.get (P := pH x (2 * 30) X) (by repeat (first | exact List.mem_cons_self | apply List.mem_cons_of_mem))) (by decide)).mono ?_; rintro e w1 ⟨rfl, hb⟩; replace hL := hL.go hb; clear hb
      go_wp2_with fail; refine (same_t _ (k1 := 30) (k2 := (2 * 30)) (N := X) (hL.get (P := pT b 30 (X)) (by repeat (first | exact List.mem_cons_self | apply List.mem_cons_of_mem))) (hL.get (P := pH x (2 * 30) (X)) (by repeat (first | exact List.mem_cons_self | apply List.mem_cons_of_mem))) (by decide) (by decide)).mono ?_; rintro e w1 ⟨rfl, hb⟩; replace hL := hL.go hb; clear hb
      go_wp2
      go_ret
      exact ⟨rfl, hL.below⟩
end Go.Proofs.YtniffclplmgcfaaGreatDoor
