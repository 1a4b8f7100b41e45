/- Plain: what the document finds behind its loop over a whole text. Conditions: none. -/
/- The whole text of a number, walked: qtext.Text. Conditions: at most 64 words; the table of powers reads as it is laid. -/
import Derived.Test.YtncfbleeidjflaaGreatDoorTx23
import Derived.Test.YtncfbleeidjflaaGreatDoorTx01
import Derived.Test.YtncfbleeidjflaaGreatDoorTx19
namespace Go.Cal
open Go.Lib
section
variable (M f : Nat)
theorem qtx_take : (qtx M f).take (decDigits (M / 10 ^ f)).length = decDigits (M / 10 ^ f) := by
  unfold qtx
  rw [List.take_left]
theorem qtx_point : (qfr M f = [] ∧ (qtx M f).length = (decDigits (M / 10 ^ f)).length) ∨
    (0 < (qfr M f).length ∧ (qtx M f).length = (decDigits (M / 10 ^ f)).length + 1 + (qfr M f).length ∧ (qtx M f).getD ((qtx M f).length - 1) 0 ≠ 48) := by
  by_cases h : qfr M f = []
  · exact .inl ⟨h, by rw [qtx_len, if_pos h]; rfl⟩
  · refine .inr ⟨List.length_pos_iff.2 h, by rw [qtx_len, if_neg h]; omega, fun e => ?_⟩
    have hl := trR_last (padd f (M % 10 ^ f))
    change (qfr M f).getLast? ≠ some 48 at hl
    obtain ⟨r, c, hr⟩ := List.eq_nil_or_concat (qfr M f) |>.resolve_left h
    rw [List.concat_eq_append] at hr
    have hq : qtx M f = decDigits (M / 10 ^ f) ++ 46 :: r ++ [c] := by
      unfold qtx
      rw [if_neg h, hr]
      simp
    rw [hq, List.getD_eq_getElem?_getD, List.length_append, List.getElem?_append_right (by simp)] at e
    simp at e
    rw [hr, e] at hl
    simp at hl
theorem qtx_whole : (∃ c r, decDigits (M / 10 ^ f) = c :: r ∧ (c = 48 → r = [])) := by
  obtain ⟨c, r, h⟩ : ∃ c r, decDigits (M / 10 ^ f) = c :: r := List.exists_cons_of_ne_nil (dec_ne _)
  refine ⟨c, r, h, fun e => ?_⟩
  rcases Nat.eq_zero_or_pos (M / 10 ^ f) with h0 | h0
  · rw [h0] at h
    have : decDigits 0 = [48] := by decide +kernel
    rw [this] at h
    injection h with h1 h2
    exact h2.symm
  · have := dec_head h0
    rw [h, e] at this
    exact absurd rfl this
end
/-- The digits of a whole text, behind the noughts ahead, are those of a number. -/
theorem qtx_pok {N : Nat} {e : Int} (hN : N < qB) (he : ¬ qfar e) : (decDigits (qM N e / 10 ^ qF e) ++ qfr (qM N e) (qF e)).length ≤ 2000 := by
  have h1 : (qfr (qM N e) (qF e)).length ≤ qF e := by
    have := (trR_prefix (padd (qF e) (qM N e % 10 ^ qF e))).length_le
    rwa [padd_length] at this
  rw [List.length_append]
  rcases Nat.eq_zero_or_pos N with rfl | h0
  · have hf : qF e ≤ 1200 := by unfold qF; unfold qfar at he; omega
    rw [qM_zero, Nat.zero_div] at *
    have : decDigits 0 = [48] := by decide +kernel
    rw [this]
    simp only [List.length_cons, List.length_nil]
    omega
  · have := (qM_bnd hN he h0).2.2
    omega
theorem stp_done {l : List UInt8} (h : l.length ≤ 1 ∨ ∃ c r, l = c :: r ∧ c ≠ 48) : stp l = l := by
  match l, h with
  | [], _ => rfl
  | [c], _ => rfl
  | c :: d :: r, h =>
    rcases h with h | ⟨c', r', e, h⟩
    · simp at h
    · injection e with e1 e2
      subst e1
      unfold stp
      rw [if_neg h]
theorem stp_step (d : UInt8) (r : List UInt8) : stp (48 :: d :: r) = stp (d :: r) := by
  rw [stp, if_pos rfl]
/-- The document's comparison comes out even. -/
theorem qtx_even (N : Nat) (e : Int) : exC (numV (decDigits (qM N e / 10 ^ qF e) ++ qfr (qM N e) (qF e))) (-((qfr (qM N e) (qF e)).length : Int)) (-((qfr (qM N e) (qF e)).length : Int)) N e 0 = 0 := by
  obtain ⟨z, hz, hv⟩ := qfr_split (qM N e) (qF e)
  unfold exC
  rw [qtx_same hz hv]
  exact cmpV_eq rfl
end Go.Cal
namespace Go.Proofs.YtncfbleeidjflaaGreatDoor
open Go.RowKit Go.Cal
theorem qstr_app (a b : List UInt8) : strL a ++ strL b = strL (a ++ b) := by
  unfold strL
  apply ByteArray.ext
  simp
theorem q_point (a b c : List UInt8) : strL a ++ strL b ++ ⟨#[46]⟩ ++ strL c = strL (a ++ b ++ 46 :: c) := by
  rw [show (⟨#[46]⟩ : ByteArray) = strL [46] from rfl, qstr_app, qstr_app, qstr_app]
  simp
theorem dec_size (X : Nat) : (⟨(Lib.decDigits X).toArray⟩ : ByteArray).size = (Lib.decDigits X).length := strL_size _
set_option maxRecDepth 100000 in
theorem far_any (e : Int) (w : World) (_he : -9223372036854775808 ≤ e ∧ e ≤ 9223372036854775807) : Calls Tryz.prog 44 #[.int .i64 e] w fun e' w' => e' = .returned (.bool (decide (qfar e))) ∧ w = w' := by
  by_cases h1 : e < -1200
  · rw [decide_eq_true (show qfar e from .inl h1)]
    go_enter Tryz.func44, Tryz.ntmps44
    go_wp2
    go_ret
    exact ⟨rfl, rfl⟩
  · by_cases h2 : 1200 < e
    · rw [decide_eq_true (show qfar e from .inr h2)]
      go_enter Tryz.func44, Tryz.ntmps44
      go_wp2
      go_ret
      exact ⟨rfl, rfl⟩
    · rw [decide_eq_false (show ¬ qfar e from fun h => h.elim h1 h2)]
      go_enter Tryz.func44, Tryz.ntmps44
      go_wp2
      go_ret
      exact ⟨rfl, rfl⟩
theorem sbits_t {w : World} {v1 : Value} {k1 X : Nat} (h : IsN w v1 k1 X) (b1 : k1 ≤ 1048576) : Calls Tryz.prog 45 #[v1] w fun e w' => e = .returned (.int .i64 (blen X : Nat)) ∧ w = w' := by
  obtain ⟨A1, c1, z1, rfl, r1, hc1, hl1, d1, rfl⟩ := h
  exact bits_any c1 w r1 hc1 (by omega) d1
theorem blen_iff {N k : Nat} : blen N ≤ k ↔ N < 2 ^ k := ⟨fun h => Nat.lt_of_lt_of_le (blen_lt N) (Nat.pow_le_pow_right (by decide) h), blen_le⟩
theorem blen_qB {N : Nat} : blen N ≤ 2048 ↔ N < qB := by unfold qB; exact blen_iff
def qU : Nat := qPow 2 3600
theorem qU_pos : 0 < qU := by decide +kernel
theorem qU_le {n : Nat} (h : n ≤ 3600) : 2 ^ n ≤ qU := qPow_le (by decide) h
theorem qB_51 : qB * qT ≤ 18446744073709551616 ^ 51 := by decide +kernel
theorem qB_6000 : qB * qU ≤ 2 ^ 6000 := by decide +kernel
set_option maxRecDepth 100000 in
set_option maxHeartbeats 2000000 in
/-- What is too large. -/
theorem qtext_bad {v : Value} {k N : Nat} (w : World) (h : IsN w v k N) (hk : k ≤ 64) (neg : Bool) (e : Int) (he64 : -9223372036854775808 ≤ e ∧ e ≤ 9223372036854775807) (hbad : qfar e ∨ qB ≤ N) :
    Calls Tryz.prog 17 #[.bool neg, v, .int .i64 e] w fun e' w' => e' = .returned (.tuple #[.string ⟨#[]⟩, .int .i64 1]) ∧ Below w.heap.size w w' := by
  have hbits := Lib.hid fun w' (hb : Below w.heap.size w w') => sbits_t (h.below hb) (by omega)
  by_cases hfar' : qfar e
  · have hfar : decide (qfar e) = true := decide_eq_true hfar'
    go_enter Tryz.func17, Tryz.ntmps17
    go_wp2_with fail
    refine (far_any e w he64).mono ?_
    rintro e1 w1 ⟨rfl, rfl⟩
    rw [hfar]
    go_wp2
    refine bodyPost_ret (v := .tuple #[.string ⟨#[]⟩, .int .i64 1]) (by simp [results, Tryz.results17, go_sem]) rfl ⟨rfl, Below.refl _ _⟩
  · have hfar : decide (qfar e) = false := decide_eq_false hfar'
    have hN : 2048 < blen N := by
      rcases Nat.lt_or_ge 2048 (blen N) with h1 | h1
      · exact h1
      · exact absurd (blen_qB.1 h1) (Nat.not_lt.2 (hbad.resolve_left hfar'))
    have hNi : (2048 : Int) < (blen N : Int) := by omega
    go_enter Tryz.func17, Tryz.ntmps17
    go_wp2_with fail
    refine (far_any e w he64).mono ?_
    rintro e1 w1 ⟨rfl, rfl⟩
    rw [hfar]
    go_wp2_with fail
    refine (hbits.out _ (Below.refl _ _)).mono ?_
    rintro e1 w1 ⟨rfl, rfl⟩
    go_wp2
    refine bodyPost_ret (v := .tuple #[.string ⟨#[]⟩, .int .i64 1]) (by simp [results, Tryz.results17, go_sem]) rfl ⟨rfl, Below.refl _ _⟩
theorem qM_whole {N : Nat} {e : Int} (he : ¬ qfar e) (h0 : 0 ≤ e) : N * 2 ^ (min (max e 0) 131072).toNat = qM N e := by
  unfold qfar at he
  unfold qM
  rw [if_pos h0, show (min (max e 0) 131072).toNat = e.toNat by omega]
theorem qM_51 {N : Nat} {e : Int} (hN : N < qB) (he : ¬ qfar e) (h0 : 0 ≤ e) : qM N e < 18446744073709551616 ^ 51 := by
  unfold qfar at he
  unfold qM
  rw [if_pos h0]
  exact Nat.lt_of_lt_of_le (Nat.mul_lt_mul_of_lt_of_le hN (qT_le (show e.toNat ≤ 1200 by omega)) qT_pos) qB_51
set_option maxRecDepth 100000 in
set_option maxHeartbeats 4000000 in
/-- The text. -/
theorem qtext_ok {v : Value} {k N : Nat} (w : World) (hT : Tab10 w) (h : IsN w v k N) (hk : k ≤ 64) (neg : Bool) (e : Int) (he : ¬ qfar e) (hN : N < qB) :
    Calls Tryz.prog 17 #[.bool neg, v, .int .i64 e] w fun e' w' => e' = .returned (.tuple #[.string (strL (qS neg N e)), .int .i64 0]) ∧ Below w.heap.size w w' := by
  have hfar : decide (qfar e) = false := decide_eq_false he
  have hbits := Lib.hid fun w' (hb : Below w.heap.size w w') => sbits_t (h.below hb) (by omega)
  have hNb : ¬ (2048 : Int) < (blen N : Int) := by have := blen_qB.2 hN; omega
  have hei : ¬ e < -1200 ∧ ¬ 1200 < e := by
    unfold qfar at he
    exact ⟨fun h => he (.inl h), fun h => he (.inr h)⟩
  obtain ⟨hei1, hei2⟩ := hei
  have he64 : -9223372036854775808 ≤ e ∧ e ≤ 9223372036854775807 := by omega
  have hsg : (neg = false ∧ qsg neg N = []) ∨ (neg = true ∧ ¬ (0 : Int) < (blen N : Int) ∧ qsg neg N = []) ∨ (neg = true ∧ (0 : Int) < (blen N : Int) ∧ qsg neg N = [45]) := by
    unfold qsg
    cases neg
    · exact .inl ⟨rfl, by simp⟩
    · rcases Nat.eq_zero_or_pos N with rfl | h0
      · exact .inr (.inl ⟨rfl, by rw [blen_zero]; omega, by simp⟩)
      · refine .inr (.inr ⟨rfl, ?_, by simp; omega⟩)
        have := blen_iff (N := N) (k := 0)
        have h1 : ¬ blen N ≤ 0 := fun h => by have := this.1 h; simp at this; omega
        omega
  by_cases h0 : 0 ≤ e
  · have hqm := Lib.hid (qM_whole (N := N) he h0)
    have hM51 := Lib.hid (qM_51 hN he h0)
    have hres : ∀ sg, qsg neg N = sg → qS neg N e = sg ++ Lib.decDigits (qM N e) := fun sg hs => by
      have hf : qF e = 0 := by unfold qF; omega
      unfold qS qtx
      rw [hs, hf, Nat.pow_zero, Nat.div_one]
      have h1 : qfr (qM N e) 0 = [] := rfl
      rw [if_pos h1, List.append_nil]
    have hdl : (Lib.decDigits (qM N e)).length ≤ 978 := by
      refine dec_len (by decide) ?_
      rw [← hqm.out]
      refine Nat.lt_of_lt_of_le (Nat.mul_lt_mul_of_lt_of_le hN (qT_le (by omega)) qT_pos) qB_978
    replace hdl := Lib.hid hdl
    replace hN := Lib.hid hN
    rcases hsg with ⟨rfl, hsg⟩ | ⟨rfl, hb0, hsg⟩ | ⟨rfl, hb0, hsg⟩
    · have hres := Lib.hid (hres _ hsg)
      replace hsg := Lib.hid hsg
      go_enter Tryz.func17, Tryz.ntmps17
      go_wp2_with fail
      refine (far_any e w he64).mono ?_
      rintro e1 w1 ⟨rfl, rfl⟩
      rw [hfar]
      go_wp2_with fail
      refine (hbits.out _ (Below.refl _ _)).mono ?_
      rintro e1 w1 ⟨rfl, rfl⟩
      go_wp2_with fail
      refine (shl_t e 51 (qM N e) h (by omega) ?hN ?hk).mono ?_
      case hN => exact hqm.out
      case hk => exact hM51.out
      rintro e1 w2 ⟨v2, rfl, hv2, hb2⟩
      go_wp2_with fail
      refine (stext_t (hT.below hb2) (IsT.isN hv2) (by decide)).mono ?_
      rintro e1 w3 ⟨rfl, hb3⟩
      replace hb3 := chain hb2 hb3
      clear hb2 hv2
      have hsz := dec_size (qM N e)
      have hln := hdl.out
      go_wp2
      refine bodyPost_ret (v := .tuple #[.string ((⟨#[]⟩ : ByteArray) ++ strL (Lib.decDigits (qM N e))), .int .i64 0]) (by simp [results, Tryz.results17, go_sem, strL]) rfl ⟨?_, hb3⟩
      rw [hres.out]
      exact congrArg (fun s => Ending.returned (.tuple #[.string s, .int .i64 0])) (qstr_app _ _)
    · have hres := Lib.hid (hres _ hsg)
      replace hsg := Lib.hid hsg
      go_enter Tryz.func17, Tryz.ntmps17
      go_wp2_with fail
      refine (far_any e w he64).mono ?_
      rintro e1 w1 ⟨rfl, rfl⟩
      rw [hfar]
      go_wp2_with fail
      refine (hbits.out _ (Below.refl _ _)).mono ?_
      rintro e1 w1 ⟨rfl, rfl⟩
      go_wp2_with fail
      refine (hbits.out _ (Below.refl _ _)).mono ?_
      rintro e1 w1 ⟨rfl, rfl⟩
      go_wp2_with fail
      refine (shl_t e 51 (qM N e) h (by omega) ?hN ?hk).mono ?_
      case hN => exact hqm.out
      case hk => exact hM51.out
      rintro e1 w2 ⟨v2, rfl, hv2, hb2⟩
      go_wp2_with fail
      refine (stext_t (hT.below hb2) (IsT.isN hv2) (by decide)).mono ?_
      rintro e1 w3 ⟨rfl, hb3⟩
      replace hb3 := chain hb2 hb3
      clear hb2 hv2
      have hsz := dec_size (qM N e)
      have hln := hdl.out
      go_wp2
      refine bodyPost_ret (v := .tuple #[.string ((⟨#[]⟩ : ByteArray) ++ strL (Lib.decDigits (qM N e))), .int .i64 0]) (by simp [results, Tryz.results17, go_sem, strL]) rfl ⟨?_, hb3⟩
      rw [hres.out]
      exact congrArg (fun s => Ending.returned (.tuple #[.string s, .int .i64 0])) (qstr_app _ _)
    · have hres := Lib.hid (hres _ hsg)
      replace hsg := Lib.hid hsg
      go_enter Tryz.func17, Tryz.ntmps17
      go_wp2_with fail
      refine (far_any e w he64).mono ?_
      rintro e1 w1 ⟨rfl, rfl⟩
      rw [hfar]
      go_wp2_with fail
      refine (hbits.out _ (Below.refl _ _)).mono ?_
      rintro e1 w1 ⟨rfl, rfl⟩
      go_wp2_with fail
      refine (hbits.out _ (Below.refl _ _)).mono ?_
      rintro e1 w1 ⟨rfl, rfl⟩
      go_wp2_with fail
      refine (shl_t e 51 (qM N e) h (by omega) ?hN ?hk).mono ?_
      case hN => exact hqm.out
      case hk => exact hM51.out
      rintro e1 w2 ⟨v2, rfl, hv2, hb2⟩
      go_wp2_with fail
      refine (stext_t (hT.below hb2) (IsT.isN hv2) (by decide)).mono ?_
      rintro e1 w3 ⟨rfl, hb3⟩
      replace hb3 := chain hb2 hb3
      clear hb2 hv2
      have hsz := dec_size (qM N e)
      have hln := hdl.out
      go_wp2
      refine bodyPost_ret (v := .tuple #[.string ((⟨#[45]⟩ : ByteArray) ++ strL (Lib.decDigits (qM N e))), .int .i64 0]) (by simp [results, Tryz.results17, go_sem, strL]) rfl ⟨?_, hb3⟩
      rw [hres.out]
      exact congrArg (fun s => Ending.returned (.tuple #[.string s, .int .i64 0])) (qstr_app _ _)
  · obtain ⟨f, hf⟩ : ∃ f : Nat, qF e = f := ⟨_, rfl⟩
    have hfe : (f : Int) = -e := by unfold qF at hf; omega
    have hfm : (min (max (-e) 0) 10000).toNat = f := by omega
    obtain ⟨M, hM⟩ : ∃ M, qM N e = M := ⟨_, rfl⟩
    have hMe : N * 5 ^ f = M := by rw [← hM]; unfold qM; rw [if_neg h0, ← hf]; rfl
    have hpad := qpad M f (by omega)
    obtain ⟨nd, hnd⟩ : ∃ n, (Lib.decDigits M).length = n := ⟨_, rfl⟩
    have hndb : nd ≤ 6000 := by
      rw [← hnd]
      refine dec_len_bound ?_ (by decide)
      rw [← hMe]
      have h5 : 5 ^ f ≤ qU := by
        have h6 : 5 ^ f ≤ (2 ^ 3) ^ f := Nat.pow_le_pow_left (by decide) f
        rw [← Nat.pow_mul] at h6
        exact Nat.le_trans h6 (qU_le (by omega))
      exact Nat.lt_of_lt_of_le (Nat.mul_lt_mul_of_lt_of_le hN h5 qU_pos) qB_6000
    obtain ⟨dq, hdq⟩ : ∃ l, Lib.decDigits (M / 10 ^ f) = l := ⟨_, rfl⟩
    obtain ⟨fr, hfr⟩ : ∃ l, trR (padd f (M % 10 ^ f)) = l := ⟨_, rfl⟩
    obtain ⟨S, hSd⟩ : ∃ S, dq ++ padd f (M % 10 ^ f) = S := ⟨_, rfl⟩
    obtain ⟨p, hp⟩ : ∃ p, dq.length = p := ⟨_, rfl⟩
    obtain ⟨n, hSn'⟩ : ∃ n, S.length = n := ⟨_, rfl⟩
    have hnp : n = p + f := by rw [← hSn', ← hSd, List.length_append, padd_length, hp]
    have hpb : p ≤ 6000 := by
      have h1 : p ≤ (Lib.decDigits M).length ∨ p ≤ 1 := by
        rw [← hp, ← hdq]
        by_cases hq : M / 10 ^ f = 0
        · rw [hq, dec_small (by decide)]; exact .inr (by simp)
        · have hd := dec_padd f (M / 10 ^ f) (M % 10 ^ f) (Nat.pos_of_ne_zero hq) (Nat.mod_lt _ (Nat.pow_pos (by decide)))
          rw [Nat.div_add_mod'] at hd
          refine .inl ?_
          rw [hd, List.length_append]
          omega
      omega
    have hSn : (strL S).size = n := by rw [strL_size, hSn']
    have hdn : (⟨(Lib.decDigits M).toArray⟩ : ByteArray).size = nd := by rw [dec_size, hnd]
    have hpt : (n : Int) + e = (p : Int) := by omega
    have hx1 : (strL S).extract p n = strL (padd f (M % 10 ^ f)) := by
      rw [← hSd, ← hSn', ← hSd]
      unfold strL
      apply ByteArray.ext
      apply Array.toList_inj.1
      rw [ByteArray.data_extract, Array.toList_extract]
      simp [List.extract_eq_take_drop, ← hp]
    have hx2 : (strL S).extract 0 p = strL dq := by
      rw [← hSd]
      unfold strL
      apply ByteArray.ext
      apply Array.toList_inj.1
      rw [ByteArray.data_extract, Array.toList_extract]
      simp [List.extract_eq_take_drop, ← hp]
    have hE : (strL fr).toList.isEmpty = fr.isEmpty := by unfold strL; rw [ByteArray.toList_mk]
    have hfrl : fr.length ≤ f := by
      have h1 := (trR_prefix (padd f (M % 10 ^ f))).length_le
      rw [padd_length, hfr] at h1
      exact h1
    have hfrs : (strL fr).size = fr.length := strL_size fr
    have hdqs : (strL dq).size = p := by rw [strL_size, hp]
    have hfb : f ≤ 1200 := by omega
    have hnb : n ≤ 7200 := by omega
    have hres : ∀ sg, qsg neg N = sg → qS neg N e = if fr = [] then sg ++ dq else sg ++ dq ++ 46 :: fr := fun sg hs => by
      unfold qS qtx
      rw [hs, hM, hf, hdq, show qfr M f = fr from hfr]
      split <;> simp
    rw [hdq, hSd] at hpad
    have hpn : (p : Int) ≤ (n : Int) := by omega
    replace hpad := Lib.hid hpad
    replace hMe := Lib.hid hMe
    replace hfm := Lib.hid hfm
    replace hnd := Lib.hid hnd
    replace hfr := Lib.hid hfr
    replace hE := Lib.hid hE
    replace hSd := Lib.hid hSd
    replace hdq := Lib.hid hdq
    replace hM := Lib.hid hM
    replace hf := Lib.hid hf
    replace hp := Lib.hid hp
    replace hSn' := Lib.hid hSn'
    replace hN := Lib.hid hN
    replace hdn' := Lib.hid hdn
    replace hnp := Lib.hid hnp
    replace hfe := Lib.hid hfe
    rcases hsg with ⟨rfl, hsg⟩ | ⟨rfl, hb0, hsg⟩ | ⟨rfl, hb0, hsg⟩
    · have hres := Lib.hid (hres _ hsg)
      replace hsg := Lib.hid hsg
      go_enter Tryz.func17, Tryz.ntmps17
      go_wp2_with fail
      refine (far_any e w he64).mono ?_
      rintro e1 w1 ⟨rfl, rfl⟩
      rw [hfar]
      go_wp2_with fail
      refine (hbits.out _ (Below.refl _ _)).mono ?_
      rintro e1 w1 ⟨rfl, rfl⟩
      go_wp2_with fail
      refine (pow_t w 5 (by decide) (-e) f hfm.out).mono ?_
      rintro e1 w2 ⟨v2, rfl, hv2, hb2⟩
      go_wp2_with fail
      refine (mul_t (h.below hb2) (IsT.isN hv2) (by omega) (by omega)).mono ?_
      rintro e1 w3 ⟨v3, rfl, hv3, hb3⟩
      go_wp2_with fail
      refine (stext_t (hT.below (chain hb2 hb3)) (IsT.isN hv3) (by omega)).mono ?_
      rintro e1 w4 ⟨rfl, hb4⟩
      have hbw := chain (chain hb2 hb3) hb4
      clear hb2 hb3 hb4 hv2 hv3
      rw [hMe.out]
      by_cases hc : nd < f + 1
      · obtain ⟨c, hcn⟩ : ∃ c : Nat, f + 1 - nd = c := ⟨_, rfl⟩
        have hc1 : (1 : Int) - e - (nd : Int) = (c : Int) := by have := hfe.out; omega
        have hc0 : (0 : Int) < (c : Int) := by omega
        have hrep := Lib.hid fun (W : World) => Tryz.strings_Repeat ⟨#[48]⟩ c W (by omega) (by show 1 * _ ≤ _; omega)
        have hcat : (⟨(Lib.repeatL [48] c).toArray⟩ : ByteArray) ++ ⟨(Lib.decDigits M).toArray⟩ = strL S := by
          have e1 := hpad.out
          rw [hnd.out, hcn] at e1
          rw [repeat_one, ← e1, ← qstr_app]
          rfl
        have hrs : (⟨(Lib.repeatL [48] c).toArray⟩ : ByteArray).size = c := by
          show (Lib.repeatL [48] c).toArray.size = c
          rw [repeat_one]; simp
        have hcb : c ≤ 100000 := by omega
        replace hcn := Lib.hid hcn
        go_wp2_with fail
        refine (hrep.out _).mono ?_
        rintro e1 w6 ⟨rfl, hb6⟩
        replace hbw := chain hbw hb6
        clear hb6
        go_wp2_with fail
        refine (trimR_any (padd f (M % 10 ^ f)) (by rw [padd_length]; unfold maxLen; omega) _).mono ?_
        rintro e1 w5 ⟨rfl, rfl⟩
        rw [hfr.out]
        by_cases hf0 : fr = []
        · have hE1 : (strL fr).toList.isEmpty = true := by rw [hE.out, hf0]; rfl
          have hfin := hres.out
          rw [if_pos hf0] at hfin
          replace hfin := Lib.hid hfin
          replace hf0 := Lib.hid hf0
          go_wp2
          refine bodyPost_ret (v := .tuple #[.string ((⟨#[]⟩ : ByteArray) ++ strL dq), .int .i64 0]) (by simp [results, Tryz.results17, go_sem, strL]) rfl ⟨?_, hbw⟩
          rw [hfin.out]
          exact congrArg (fun s => Ending.returned (.tuple #[.string s, .int .i64 0])) (qstr_app _ dq)
        · have hE1 : (strL fr).toList.isEmpty = false := by rw [hE.out]; simpa using hf0
          have hfin := hres.out
          rw [if_neg hf0] at hfin
          replace hfin := Lib.hid hfin
          replace hf0 := Lib.hid hf0
          go_wp2
          refine bodyPost_ret (v := .tuple #[.string ((⟨#[]⟩ : ByteArray) ++ strL dq ++ ⟨#[46]⟩ ++ strL fr), .int .i64 0]) (by simp [results, Tryz.results17, go_sem, strL]) rfl ⟨?_, hbw⟩
          rw [hfin.out]
          exact congrArg (fun s => Ending.returned (.tuple #[.string s, .int .i64 0])) (q_point _ dq fr)
      · have hS : (⟨(Lib.decDigits M).toArray⟩ : ByteArray) = strL S := by
          have e1 := hpad.out
          rw [hnd.out, show f + 1 - nd = 0 by omega] at e1
          rw [← e1]
          rfl
        obtain ⟨z, hz⟩ : ∃ z : Int, (1 : Int) - e - (n : Int) = z := ⟨_, rfl⟩
        have hnn : nd = n := by
          have e1 := congrArg ByteArray.size hS
          rw [hdn'.out, hSn] at e1
          exact e1
        have hz0 : ¬ (0 : Int) < z := by have := hfe.out; omega
        rw [hS]
        clear hS
        go_wp2_with fail
        refine (trimR_any (padd f (M % 10 ^ f)) (by rw [padd_length]; unfold maxLen; omega) _).mono ?_
        rintro e1 w5 ⟨rfl, rfl⟩
        rw [hfr.out]
        by_cases hf0 : fr = []
        · have hE1 : (strL fr).toList.isEmpty = true := by rw [hE.out, hf0]; rfl
          have hfin := hres.out
          rw [if_pos hf0] at hfin
          replace hfin := Lib.hid hfin
          replace hf0 := Lib.hid hf0
          go_wp2
          refine bodyPost_ret (v := .tuple #[.string ((⟨#[]⟩ : ByteArray) ++ strL dq), .int .i64 0]) (by simp [results, Tryz.results17, go_sem, strL]) rfl ⟨?_, hbw⟩
          rw [hfin.out]
          exact congrArg (fun s => Ending.returned (.tuple #[.string s, .int .i64 0])) (qstr_app _ dq)
        · have hE1 : (strL fr).toList.isEmpty = false := by rw [hE.out]; simpa using hf0
          have hfin := hres.out
          rw [if_neg hf0] at hfin
          replace hfin := Lib.hid hfin
          replace hf0 := Lib.hid hf0
          go_wp2
          refine bodyPost_ret (v := .tuple #[.string ((⟨#[]⟩ : ByteArray) ++ strL dq ++ ⟨#[46]⟩ ++ strL fr), .int .i64 0]) (by simp [results, Tryz.results17, go_sem, strL]) rfl ⟨?_, hbw⟩
          rw [hfin.out]
          exact congrArg (fun s => Ending.returned (.tuple #[.string s, .int .i64 0])) (q_point _ dq fr)
    · have hres := Lib.hid (hres _ hsg)
      replace hsg := Lib.hid hsg
      go_enter Tryz.func17, Tryz.ntmps17
      go_wp2_with fail
      refine (far_any e w he64).mono ?_
      rintro e1 w1 ⟨rfl, rfl⟩
      rw [hfar]
      go_wp2_with fail
      refine (hbits.out _ (Below.refl _ _)).mono ?_
      rintro e1 w1 ⟨rfl, rfl⟩
      go_wp2_with fail
      refine (hbits.out _ (Below.refl _ _)).mono ?_
      rintro e1 w1 ⟨rfl, rfl⟩
      go_wp2_with fail
      refine (pow_t w 5 (by decide) (-e) f hfm.out).mono ?_
      rintro e1 w2 ⟨v2, rfl, hv2, hb2⟩
      go_wp2_with fail
      refine (mul_t (h.below hb2) (IsT.isN hv2) (by omega) (by omega)).mono ?_
      rintro e1 w3 ⟨v3, rfl, hv3, hb3⟩
      go_wp2_with fail
      refine (stext_t (hT.below (chain hb2 hb3)) (IsT.isN hv3) (by omega)).mono ?_
      rintro e1 w4 ⟨rfl, hb4⟩
      have hbw := chain (chain hb2 hb3) hb4
      clear hb2 hb3 hb4 hv2 hv3
      rw [hMe.out]
      by_cases hc : nd < f + 1
      · obtain ⟨c, hcn⟩ : ∃ c : Nat, f + 1 - nd = c := ⟨_, rfl⟩
        have hc1 : (1 : Int) - e - (nd : Int) = (c : Int) := by have := hfe.out; omega
        have hc0 : (0 : Int) < (c : Int) := by omega
        have hrep := Lib.hid fun (W : World) => Tryz.strings_Repeat ⟨#[48]⟩ c W (by omega) (by show 1 * _ ≤ _; omega)
        have hcat : (⟨(Lib.repeatL [48] c).toArray⟩ : ByteArray) ++ ⟨(Lib.decDigits M).toArray⟩ = strL S := by
          have e1 := hpad.out
          rw [hnd.out, hcn] at e1
          rw [repeat_one, ← e1, ← qstr_app]
          rfl
        have hrs : (⟨(Lib.repeatL [48] c).toArray⟩ : ByteArray).size = c := by
          show (Lib.repeatL [48] c).toArray.size = c
          rw [repeat_one]; simp
        have hcb : c ≤ 100000 := by omega
        replace hcn := Lib.hid hcn
        go_wp2_with fail
        refine (hrep.out _).mono ?_
        rintro e1 w6 ⟨rfl, hb6⟩
        replace hbw := chain hbw hb6
        clear hb6
        go_wp2_with fail
        refine (trimR_any (padd f (M % 10 ^ f)) (by rw [padd_length]; unfold maxLen; omega) _).mono ?_
        rintro e1 w5 ⟨rfl, rfl⟩
        rw [hfr.out]
        by_cases hf0 : fr = []
        · have hE1 : (strL fr).toList.isEmpty = true := by rw [hE.out, hf0]; rfl
          have hfin := hres.out
          rw [if_pos hf0] at hfin
          replace hfin := Lib.hid hfin
          replace hf0 := Lib.hid hf0
          go_wp2
          refine bodyPost_ret (v := .tuple #[.string ((⟨#[]⟩ : ByteArray) ++ strL dq), .int .i64 0]) (by simp [results, Tryz.results17, go_sem, strL]) rfl ⟨?_, hbw⟩
          rw [hfin.out]
          exact congrArg (fun s => Ending.returned (.tuple #[.string s, .int .i64 0])) (qstr_app _ dq)
        · have hE1 : (strL fr).toList.isEmpty = false := by rw [hE.out]; simpa using hf0
          have hfin := hres.out
          rw [if_neg hf0] at hfin
          replace hfin := Lib.hid hfin
          replace hf0 := Lib.hid hf0
          go_wp2
          refine bodyPost_ret (v := .tuple #[.string ((⟨#[]⟩ : ByteArray) ++ strL dq ++ ⟨#[46]⟩ ++ strL fr), .int .i64 0]) (by simp [results, Tryz.results17, go_sem, strL]) rfl ⟨?_, hbw⟩
          rw [hfin.out]
          exact congrArg (fun s => Ending.returned (.tuple #[.string s, .int .i64 0])) (q_point _ dq fr)
      · have hS : (⟨(Lib.decDigits M).toArray⟩ : ByteArray) = strL S := by
          have e1 := hpad.out
          rw [hnd.out, show f + 1 - nd = 0 by omega] at e1
          rw [← e1]
          rfl
        obtain ⟨z, hz⟩ : ∃ z : Int, (1 : Int) - e - (n : Int) = z := ⟨_, rfl⟩
        have hnn : nd = n := by
          have e1 := congrArg ByteArray.size hS
          rw [hdn'.out, hSn] at e1
          exact e1
        have hz0 : ¬ (0 : Int) < z := by have := hfe.out; omega
        rw [hS]
        clear hS
        go_wp2_with fail
        refine (trimR_any (padd f (M % 10 ^ f)) (by rw [padd_length]; unfold maxLen; omega) _).mono ?_
        rintro e1 w5 ⟨rfl, rfl⟩
        rw [hfr.out]
        by_cases hf0 : fr = []
        · have hE1 : (strL fr).toList.isEmpty = true := by rw [hE.out, hf0]; rfl
          have hfin := hres.out
          rw [if_pos hf0] at hfin
          replace hfin := Lib.hid hfin
          replace hf0 := Lib.hid hf0
          go_wp2
          refine bodyPost_ret (v := .tuple #[.string ((⟨#[]⟩ : ByteArray) ++ strL dq), .int .i64 0]) (by simp [results, Tryz.results17, go_sem, strL]) rfl ⟨?_, hbw⟩
          rw [hfin.out]
          exact congrArg (fun s => Ending.returned (.tuple #[.string s, .int .i64 0])) (qstr_app _ dq)
        · have hE1 : (strL fr).toList.isEmpty = false := by rw [hE.out]; simpa using hf0
          have hfin := hres.out
          rw [if_neg hf0] at hfin
          replace hfin := Lib.hid hfin
          replace hf0 := Lib.hid hf0
          go_wp2
          refine bodyPost_ret (v := .tuple #[.string ((⟨#[]⟩ : ByteArray) ++ strL dq ++ ⟨#[46]⟩ ++ strL fr), .int .i64 0]) (by simp [results, Tryz.results17, go_sem, strL]) rfl ⟨?_, hbw⟩
          rw [hfin.out]
          exact congrArg (fun s => Ending.returned (.tuple #[.string s, .int .i64 0])) (q_point _ dq fr)
    · have hres := Lib.hid (hres _ hsg)
      replace hsg := Lib.hid hsg
      go_enter Tryz.func17, Tryz.ntmps17
      go_wp2_with fail
      refine (far_any e w he64).mono ?_
      rintro e1 w1 ⟨rfl, rfl⟩
      rw [hfar]
      go_wp2_with fail
      refine (hbits.out _ (Below.refl _ _)).mono ?_
      rintro e1 w1 ⟨rfl, rfl⟩
      go_wp2_with fail
      refine (hbits.out _ (Below.refl _ _)).mono ?_
      rintro e1 w1 ⟨rfl, rfl⟩
      go_wp2_with fail
      refine (pow_t w 5 (by decide) (-e) f hfm.out).mono ?_
      rintro e1 w2 ⟨v2, rfl, hv2, hb2⟩
      go_wp2_with fail
      refine (mul_t (h.below hb2) (IsT.isN hv2) (by omega) (by omega)).mono ?_
      rintro e1 w3 ⟨v3, rfl, hv3, hb3⟩
      go_wp2_with fail
      refine (stext_t (hT.below (chain hb2 hb3)) (IsT.isN hv3) (by omega)).mono ?_
      rintro e1 w4 ⟨rfl, hb4⟩
      have hbw := chain (chain hb2 hb3) hb4
      clear hb2 hb3 hb4 hv2 hv3
      rw [hMe.out]
      by_cases hc : nd < f + 1
      · obtain ⟨c, hcn⟩ : ∃ c : Nat, f + 1 - nd = c := ⟨_, rfl⟩
        have hc1 : (1 : Int) - e - (nd : Int) = (c : Int) := by have := hfe.out; omega
        have hc0 : (0 : Int) < (c : Int) := by omega
        have hrep := Lib.hid fun (W : World) => Tryz.strings_Repeat ⟨#[48]⟩ c W (by omega) (by show 1 * _ ≤ _; omega)
        have hcat : (⟨(Lib.repeatL [48] c).toArray⟩ : ByteArray) ++ ⟨(Lib.decDigits M).toArray⟩ = strL S := by
          have e1 := hpad.out
          rw [hnd.out, hcn] at e1
          rw [repeat_one, ← e1, ← qstr_app]
          rfl
        have hrs : (⟨(Lib.repeatL [48] c).toArray⟩ : ByteArray).size = c := by
          show (Lib.repeatL [48] c).toArray.size = c
          rw [repeat_one]; simp
        have hcb : c ≤ 100000 := by omega
        replace hcn := Lib.hid hcn
        go_wp2_with fail
        refine (hrep.out _).mono ?_
        rintro e1 w6 ⟨rfl, hb6⟩
        replace hbw := chain hbw hb6
        clear hb6
        go_wp2_with fail
        refine (trimR_any (padd f (M % 10 ^ f)) (by rw [padd_length]; unfold maxLen; omega) _).mono ?_
        rintro e1 w5 ⟨rfl, rfl⟩
        rw [hfr.out]
        by_cases hf0 : fr = []
        · have hE1 : (strL fr).toList.isEmpty = true := by rw [hE.out, hf0]; rfl
          have hfin := hres.out
          rw [if_pos hf0] at hfin
          replace hfin := Lib.hid hfin
          replace hf0 := Lib.hid hf0
          go_wp2
          refine bodyPost_ret (v := .tuple #[.string ((⟨#[45]⟩ : ByteArray) ++ strL dq), .int .i64 0]) (by simp [results, Tryz.results17, go_sem, strL]) rfl ⟨?_, hbw⟩
          rw [hfin.out]
          exact congrArg (fun s => Ending.returned (.tuple #[.string s, .int .i64 0])) (qstr_app _ dq)
        · have hE1 : (strL fr).toList.isEmpty = false := by rw [hE.out]; simpa using hf0
          have hfin := hres.out
          rw [if_neg hf0] at hfin
          replace hfin := Lib.hid hfin
          replace hf0 := Lib.hid hf0
          go_wp2
          refine bodyPost_ret (v := .tuple #[.string ((⟨#[45]⟩ : ByteArray) ++ strL dq ++ ⟨#[46]⟩ ++ strL fr), .int .i64 0]) (by simp [results, Tryz.results17, go_sem, strL]) rfl ⟨?_, hbw⟩
          rw [hfin.out]
          exact congrArg (fun s => Ending.returned (.tuple #[.string s, .int .i64 0])) (q_point _ dq fr)
      · have hS : (⟨(Lib.decDigits M).toArray⟩ : ByteArray) = strL S := by
          have e1 := hpad.out
          rw [hnd.out, show f + 1 - nd = 0 by omega] at e1
          rw [← e1]
          rfl
        obtain ⟨z, hz⟩ : ∃ z : Int, (1 : Int) - e - (n : Int) = z := ⟨_, rfl⟩
        have hnn : nd = n := by
          have e1 := congrArg ByteArray.size hS
          rw [hdn'.out, hSn] at e1
          exact e1
        have hz0 : ¬ (0 : Int) < z := by have := hfe.out; omega
        rw [hS]
        clear hS
        go_wp2_with fail
        refine (trimR_any (padd f (M % 10 ^ f)) (by rw [padd_length]; unfold maxLen; omega) _).mono ?_
        rintro e1 w5 ⟨rfl, rfl⟩
        rw [hfr.out]
        by_cases hf0 : fr = []
        · have hE1 : (strL fr).toList.isEmpty = true := by rw [hE.out, hf0]; rfl
          have hfin := hres.out
          rw [if_pos hf0] at hfin
          replace hfin := Lib.hid hfin
          replace hf0 := Lib.hid hf0
          go_wp2
          refine bodyPost_ret (v := .tuple #[.string ((⟨#[45]⟩ : ByteArray) ++ strL dq), .int .i64 0]) (by simp [results, Tryz.results17, go_sem, strL]) rfl ⟨?_, hbw⟩
          rw [hfin.out]
          exact congrArg (fun s => Ending.returned (.tuple #[.string s, .int .i64 0])) (qstr_app _ dq)
        · have hE1 : (strL fr).toList.isEmpty = false := by rw [hE.out]; simpa using hf0
          have hfin := hres.out
          rw [if_neg hf0] at hfin
          replace hfin := Lib.hid hfin
          replace hf0 := Lib.hid hf0
          go_wp2
          refine bodyPost_ret (v := .tuple #[.string ((⟨#[45]⟩ : ByteArray) ++ strL dq ++ ⟨#[46]⟩ ++ strL fr), .int .i64 0]) (by simp [results, Tryz.results17, go_sem, strL]) rfl ⟨?_, hbw⟩
          rw [hfin.out]
          exact congrArg (fun s => Ending.returned (.tuple #[.string s, .int .i64 0])) (q_point _ dq fr)
end Go.Proofs.YtncfbleeidjflaaGreatDoor
