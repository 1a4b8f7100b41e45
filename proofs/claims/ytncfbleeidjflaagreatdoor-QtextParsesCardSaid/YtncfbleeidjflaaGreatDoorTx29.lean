/- The document's answer for chapter 16, walked: a whole text is that of its number. Conditions: as the law's. -/
import Derived.Test.YtncfbleeidjflaaGreatDoorTx28
import Derived.Test.YtncfbleeidjflaaGreatDoorTx22
namespace Go.Proofs.YtncfbleeidjflaaGreatDoor
open Go.RowKit Go.Cal
theorem stp_pok {l : List UInt8} (h0 : l ≠ []) (hd : ∀ c ∈ l, isDig c = true) (hl : l.length ≤ 2000) : POk (stp l) :=
  have h := stp_ok l h0 hd
  ⟨h.1, Nat.le_trans (stp_len l) hl, h.2.2, h.2.1⟩
theorem cells4Q {w : World} {g : Nat} {a b c d : Value} {t : TypeId} (hp : pBlk g #[a, b, c, d] t w) : w.cell? ⟨g, 0, none⟩ = some a ∧ w.cell? ⟨g, 1, none⟩ = some b ∧ w.cell? ⟨g, 2, none⟩ = some c ∧ w.cell? ⟨g, 3, none⟩ = some d :=
  ⟨hp.cell 0 _ rfl, hp.cell 1 _ rfl, hp.cell 2 _ rfl, hp.cell 3 _ rfl⟩
theorem isT_sl {w : World} {v : Value} {k N : Nat} (h : IsT w v k N) : ∃ A n c, v = .slice A n c := by
  obtain ⟨A, c, zs, rfl, -⟩ := h
  exact ⟨_, _, _, rfl⟩
theorem qdig_bnd {c : UInt8} (h : isDig c = true) : 48 ≤ c.toNat ∧ c.toNat ≤ 57 := by
  unfold isDig at h
  simpa using h
theorem cat_two (a b : List UInt8) : strL a ++ strL b = strL (a ++ b) := by
  unfold strL
  apply ByteArray.ext
  simp
theorem strL_ext (l : List UInt8) (i : Nat) (h : i < l.length) : (strL l).extract i (i + 1) = strL [l.getD i 0] := strL_at l i h
theorem strL_takeX (l : List UInt8) (n : Nat) : (strL l).extract 0 n = strL (l.take n) := by
  unfold strL
  refine ByteArray.ext ?_
  rw [ByteArray.data_extract]
  refine Array.toList_inj.1 ?_
  rw [Array.toList_extract]
  simp
theorem strL_emp {l : List UInt8} (h : l ≠ []) : (strL l).toList.isEmpty = false := by
  unfold strL
  rw [ByteArray.toList_mk]
  simpa using h
theorem isH_zero {w : World} {v : Value} {k N : Nat} (h : IsH w v k N) : ∃ A n c, v = .slice A n c ∧ (n = 0 ↔ N = 0) := by
  obtain ⟨A, n, c, rfl, h1⟩ := isH_shQ h
  exact ⟨A, n, c, rfl, by omega⟩
set_option maxRecDepth 100000 in
set_option maxHeartbeats 8000000 in
theorem is_any (neg : Bool) {v : Value} {k N : Nat} (e : Int) (w : World) (hv : IsT w v k N) (hk : k ≤ 64) (he : ¬ qfar e) (hN : N < qB) : Calls Tryz.prog 18 #[.string (strL (qS neg N e)), .bool neg, v, .int .i64 e] w fun e' w' => e' = .returned (.bool true) ∧ Below w.heap.size w w' := by
  obtain ⟨K2, hK2, hK3⟩ : ∃ K, 2000 ≤ K ∧ K ≤ 2000 := ⟨2000, Nat.le_refl _, Nat.le_refl _⟩
  obtain ⟨q, hq⟩ : ∃ q, qtx (qM N e) (qF e) = q := ⟨_, rfl⟩
  obtain ⟨W, hW⟩ : ∃ W, Lib.decDigits (qM N e / 10 ^ qF e) = W := ⟨_, rfl⟩
  obtain ⟨R, hR⟩ : ∃ R, qfr (qM N e) (qF e) = R := ⟨_, rfl⟩
  obtain ⟨n, hn⟩ : ∃ n, W.length = n := ⟨_, rfl⟩
  obtain ⟨z, hz⟩ : ∃ z, q.length = z := ⟨_, rfl⟩
  obtain ⟨r, hr⟩ : ∃ r, R.length = r := ⟨_, rfl⟩
  have hat := qtx_at (qM N e) (qF e)
  rw [hq, hW, hn, hz] at hat
  have hpt := qtx_point (qM N e) (qF e)
  rw [hq, hW, hR, hn, hz, hr] at hpt
  have htk := qtx_take (qM N e) (qF e)
  rw [hq, hW, hn] at htk
  obtain ⟨c0, r0, hc0, hc1⟩ := qtx_whole (qM N e) (qF e)
  rw [hW] at hc0
  have hall := isD_all (qM N e) (qF e)
  rw [hq, hz, hW, hR] at hall
  have hdg : ∀ c ∈ W ++ R, isDig c = true := by
    intro c hc
    rcases List.mem_append.1 hc with h | h
    · exact dec_digs _ c (hW ▸ h)
    · exact qfr_digs (qM N e) (qF e) c (hR ▸ h)
  have hpok := qtx_pok hN he
  rw [hW, hR] at hpok
  have hev := qtx_even N e
  rw [hW, hR, hr] at hev
  have hWR : W ++ R ≠ [] := by rw [hc0]; simp
  obtain ⟨S, hS⟩ : ∃ S, stp (W ++ R) = S := ⟨_, rfl⟩
  have hSp : POk S := by rw [← hS]; exact stp_pok hWR hdg hpok
  have hSv : numV S = numV (W ++ R) := by rw [← hS]; exact stp_val _
  rw [← hSv] at hev
  have hb : n + r ≤ 2000 ∧ z ≤ 2001 ∧ 1 ≤ n := by
    rw [List.length_append, hn, hr] at hpok
    have h1 : 1 ≤ n := by rw [← hn, hc0]; simp
    have h2 := qtx_len (qM N e) (qF e)
    rw [hq, hz, hW, hn, hR] at h2
    split at h2 <;> omega
  have heb : -1200 ≤ e ∧ e ≤ 1200 := by unfold qfar at he; omega
  have hNb : N < 18446744073709551616 ^ 64 := Nat.lt_of_lt_of_le hv.isN.lt (Nat.pow_le_pow_right (by decide) hk)
  have hT : (neg = false ∧ q = qS neg N e) ∨ (neg = true ∧ N = 0 ∧ q = qS neg N e) ∨ (neg = true ∧ N ≠ 0 ∧ 45 :: q = qS neg N e) := by
    unfold qS qsg
    rw [hq]
    cases neg
    · exact .inl ⟨rfl, by simp⟩
    · by_cases h0 : N = 0
      · exact .inr (.inl ⟨rfl, h0, by simp [h0]⟩)
      · exact .inr (.inr ⟨rfl, h0, by simp [h0]⟩)
  obtain ⟨T, hTt⟩ : ∃ T, qS neg N e = T := ⟨_, rfl⟩
  rw [hTt] at hT ⊢
  have hha := Lib.hid (fun (W9 : World) (hb9 : Below w.heap.size w W9) => halves_any W9 (IsT.isN (hv.below hb9)) (Nat.le_trans hk (by decide)))
  clear hq hW hR hTt hpok hWR he hN hv hdg
  have hqsz := strL_size q
  rw [hz] at hqsz
  replace hn := Lib.hid hn
  replace hz := Lib.hid hz
  replace hr := Lib.hid hr
  replace hat := Lib.hid hat
  replace htk := Lib.hid htk
  replace hc0 := Lib.hid hc0
  replace hc1 := Lib.hid hc1
  replace hall := Lib.hid hall
  replace hev := Lib.hid hev
  replace hS := Lib.hid hS
  replace hSp := Lib.hid hSp
  replace hSv := Lib.hid hSv
  replace hNb := Lib.hid hNb
  rcases hT with ⟨rfl, rfl⟩ | ⟨rfl, h0, rfl⟩ | ⟨rfl, h0, rfl⟩
  · go_enter Tryz.func18, Tryz.ntmps18
    go_wp2_with fail
    refine (hha.out _ (Below.refl _ _)).mono ?_
    rintro x w1 ⟨v1, rfl, hh, hb1, -⟩
    obtain ⟨A1, m1, c1, rfl, hz1⟩ := isH_zero hh
    clear hh
    · skip
      go_wp2
      go_loopg [10, 11, 12] z (fun g pv dv iv wr => ∃ i : Nat, pv = .int .i64 (isP n i) ∧ dv = .string (strL (isD q i)) ∧ iv = .int .i64 i ∧ i + g = z ∧ w1 = wr)
      case atStart => exact ⟨0, by rw [isP_zero], by rw [isD_zero]; rfl, rfl, by omega, rfl⟩
      case round =>
        obtain ⟨i, rfl, rfl, rfl, hik, rfl⟩ := hrel
        by_cases hk0 : gk = 0
        · obtain rfl : i = z := by omega
          have hnz : ¬ (i : Int) < (i : Int) := by omega
          rw [hall.out]
          have hgW : ∀ h : 0 < (strL W).size, (strL W)[0] = c0 := fun h => by rw [strL_get, hc0.out]; rfl
          have hEW : (strL W).toList.isEmpty = false := strL_emp (by rw [hc0.out]; simp)
          have hszW : (strL W).size = n := by rw [strL_size]; exact hn.out
          have hc48 : (¬ (c0.toNat : Int) = 48) ∨ ((c0.toNat : Int) = 48 ∧ ¬ (1 : Int) < (n : Int)) := by
            by_cases h9 : c0 = 48
            · right
              have h8 := hn.out
              rw [hc0.out, hc1.out h9] at h8
              refine ⟨by rw [h9]; rfl, ?_⟩
              simp at h8
              omega
            · left
              intro h8
              exact h9 (UInt8.toNat_inj.1 (by show c0.toNat = 48; omega))
          have hn0 : 0 < n := by omega
          rcases hpt with ⟨hR0, hzn⟩ | ⟨hr0, hzn, hlast⟩
          · obtain rfl : n = i := hzn.symm
            have hp : isP n n = -1 := isP_neg (Nat.le_refl _)
            rw [hp]
            have hr9 : r = 0 := by rw [← hr.out, hR0]; rfl
            have hqW : W = q := by have h9 := htk.out; rw [← hz.out, List.take_length] at h9; exact h9.symm
            subst hqW
            have hev0 : exC (numV S) 0 0 N e 0 = 0 := by have := hev.out; rw [hr9] at this; exact this
            replace hev0 := Lib.hid hev0
            replace hR0 := Lib.hid hR0
            clear hall htk
            have hd0 : S = stp (W ++ R) := hS.out.symm
            replace hd0 := Lib.hid hd0
            rcases hc48 with hq48 | ⟨hq48, hn1⟩
            all_goals
              go_wp2_with fail
              skip
              go_loopg [11] (n + r) (fun g dv wr => ∃ l : List UInt8, dv = .string (strL l) ∧ g = l.length ∧ l ≠ [] ∧ stp l = S ∧ l.length ≤ n + r ∧ w1 = wr)
              case atStart => exact ⟨W ++ R, rfl, by rw [List.length_append, hn.out, hr.out], by rw [hc0.out]; simp, hS.out, by rw [List.length_append, hn.out, hr.out]; exact Nat.le_refl _, rfl⟩
              case round =>
                obtain ⟨l, rfl, hgl, hlne, hst, hlb, rfl⟩ := hrel
                have hsz := strL_size l
                obtain ⟨m, hm⟩ : ∃ m, l.length = m := ⟨_, rfl⟩
                rw [hm] at hsz hgl hlb
                by_cases h48 : ∃ d t, l = 48 :: d :: t
                · obtain ⟨d, t, hlt⟩ := h48
                  have hg0 : ∀ h : 0 < (strL l).size, (strL l)[0] = 48 := fun h => by rw [strL_get, hlt]; rfl
                  have hex : (strL l).extract 1 m = strL (d :: t) := by rw [hlt]; exact strL_tail 48 (d :: t) m (by rw [← hlt]; exact hm)
                  have hm2 : m = t.length + 2 := by rw [← hm, hlt]; simp
                  have hm1 : (1 : Int) < (m : Int) := by omega
                  have hm0 : 0 < m := by omega
                  have hst2 : stp (d :: t) = S := by rw [← hst, hlt, stp_step]
                  have hlen : (d :: t).length = gk - 1 ∧ (d :: t).length ≤ n + r ∧ 0 < gk := by simp; omega
                  replace hlen := Lib.hid hlen
                  replace hst2 := Lib.hid hst2
                  replace hlt := Lib.hid hlt
                  replace hm2 := Lib.hid hm2
                  clear hst hgl
                  go_wp2
                  go_roundg (gk - 1)
                  case measure => have := hlen.out; omega
                  case rel => exact ⟨d :: t, rfl, hlen.out.1.symm, by simp, hst2.out, hlen.out.2.1, rfl⟩
                · have hlS : l = S := by
                    rw [← hst]
                    refine (stp_done ?_).symm
                    match l, hlne, h48 with
                    | [c], _, _ => exact .inl (by simp)
                    | c :: d :: t, _, h => exact .inr ⟨c, d :: t, rfl, fun e9 => h ⟨d, t, by rw [e9]⟩⟩
                  subst hlS
                  have hex : ¬ (1 : Int) < (m : Int) ∨ (1 : Int) < (m : Int) ∧ ∃ c : UInt8, (∀ h : 0 < (strL l).size, (strL l)[0] = c) ∧ ¬ (c.toNat : Int) = 48 := by
                    by_cases h1 : 1 < m
                    · refine .inr ⟨by omega, l.getD 0 0, fun h => strL_get l 0 h, fun e9 => h48 ?_⟩
                      match l, hm with
                      | c :: d :: t, _ => exact ⟨d, t, by rw [show c = 48 from UInt8.toNat_inj.1 (by show c.toNat = 48; have : ((c.toNat : Nat) : Int) = 48 := e9; omega)]⟩
                      | [c], h9 => simp at h9; omega
                      | [], h9 => simp at h9; omega
                    · exact .inl (by omega)
                  have hmb : m ≤ 2000 := by omega
                  have hnum := number_any (strL l) w1
                  rw [show (strL l).data.toList = l by unfold strL; simp] at hnum
                  clear hgl hlne h48 hlb hst
                  rcases hex with hx1 | ⟨hx1, cx, hx2, hx3⟩
                  all_goals
                    go_wp2_with fail
                    refine hnum.mono ?_
                    rintro x w2 ⟨⟨hp2, dv2, rfl, hD⟩ | ⟨hp2, -⟩, hb2⟩
                    all_goals first | exact absurd hSp.out hp2 | skip
                    have hB2 := hb1.trans (hb2.mono hb1.size)
                    have hlen2 : l.length ≤ 2000 := hSp.out.len
                    have hwd := (words_any _ hD (by omega)).mono fun x w' h => TellsW.isT (k := K2) h (Nat.lt_of_lt_of_le (IsH.lt hD) (Nat.le_trans (Nat.pow_le_pow_left (by decide) _) (Nat.pow_le_pow_right (by decide) (Nat.le_trans hlen2 hK2))))
                    clear hnum hb2 hb1
                    go_wp2_with fail
                    refine hwd.mono ?_
                    rintro x w3 ⟨v3, rfl, hv3, hb3⟩
                    obtain ⟨A3, n3, c3, rfl⟩ := isT_sl hv3
                    have hB3 := hB2.trans (hb3.mono hB2.size)
                    have hal := (Below.refl w3.heap.size w3).alloc (Nat.le_refl _) (.cells #[.bool false, .slice A3 n3 c3, .int .i64 0, .int .i64 0] 71)
                    have hB4 := hB3.trans (hal.mono hB3.size)
                    have hv4 := hv3.below hal
                    have hI4 := pBlk_made w3 #[.bool false, .slice A3 n3 c3, .int .i64 0, .int .i64 0] 71
                    have hh2 := hha.out _ hB4
                    clear hwd hB2 hb3 hD hal hv3
                    go_wp2_with fail
                    refine hh2.mono ?_
                    rintro x w5 ⟨v5, rfl, hv5, hb5, -⟩
                    have hB5 := hB4.trans (hb5.mono hB4.size)
                    have hv45 := hv4.below hb5
                    have hI5 := pBlk_st _ _ _ _ _ hI4 hb5
                    have hwd2 := (words_any _ hv5 (by omega)).mono fun x w' h => TellsW.isT (k := 64) h hNb.out
                    clear hh2 hB3 hB4 hb5 hv4 hI4 hv5
                    go_wp2_with fail
                    refine hwd2.mono ?_
                    rintro x w6 ⟨v6, rfl, hv6, hb6⟩
                    obtain ⟨A6, n6, c6, rfl⟩ := isT_sl hv6
                    have hB6 := hB5.trans (hb6.mono hB5.size)
                    have hal2 := (Below.refl w6.heap.size w6).alloc (Nat.le_refl _) (.cells #[.bool false, .slice A6 n6 c6, .int .i64 e, .int .i64 0] 71)
                    have hB7 := hB6.trans (hal2.mono hB6.size)
                    have hv47 := (hv45.below hb6).below hal2
                    have hv67 := hv6.below hal2
                    have hI7 := pBlk_st _ _ _ _ _ (pBlk_st _ _ _ _ _ hI5 hb6) hal2
                    have hJ7 := pBlk_made w6 #[.bool false, .slice A6 n6 c6, .int .i64 e, .int .i64 0] 71
                    have hcm := fun W9 h1 h2 => rcmp2_any (d1 := .slice A3 n3 c3) (d2 := .slice A6 n6 c6) (k1 := K2) (k2 := 64) (N1 := numV l) (N2 := N) false false 0 0 e 0 W9 h1 h2 (by omega) (by omega) (by omega) (by omega) (by omega) (by omega)
                    have hcm7 := hcm _ hv47.isN hv67.isN
                    rw [hev0.out] at hcm7
                    obtain ⟨p0, p1, p2, p3⟩ := cells4Q hI7
                    obtain ⟨r0', r1', r2', r3'⟩ := cells4Q hJ7
                    have l1 := hI7.lt
                    have l2 := hJ7.lt
                    clear hwd2 hB5 hB6 hb6 hal2 hv45 hv6 hI5 hI7 hJ7 hcm hv47 hv67
                    go_wp2_with fail
                    refine hcm7.mono ?_
                    rintro x w8 ⟨rfl, hb8⟩
                    have hfin := hB7.trans (hb8.mono hB7.size)
                    go_wp2
                    go_ret
                    exact ⟨rfl, hfin⟩
          · have hp : isP n i = (n : Int) := by unfold isP; rw [if_neg (by omega)]
            rw [hp]
            have htx : (strL q).extract 0 n = strL W := by rw [strL_takeX, htk.out]
            have hkk : IntKind.i64.wrap ((n : Int) + 1 - (i : Int)) = -(r : Int) := by rw [IntKind.wrap_i64]; omega
            have hkk2 : (n : Int) + 1 - (i : Int) = -(r : Int) := by omega
            obtain ⟨KK, hKK⟩ : ∃ KK : Int, -(r : Int) = KK := ⟨_, rfl⟩
            have hKb : -2000 ≤ KK ∧ KK < 0 := by omega
            obtain ⟨cz, hcz⟩ : ∃ cz, q.getD (i - 1) 0 = cz := ⟨_, rfl⟩
            have hgz : ∀ h : i - 1 < (strL q).size, (strL q)[i - 1] = cz := fun h => by rw [strL_get, hcz]
            have hzc : ¬ (cz.toNat : Int) = 48 := fun h9 => by
              refine hlast ?_
              rw [hcz]
              exact UInt8.toNat_inj.1 (by show cz.toNat = 48; omega)
            have hev0 : exC (numV S) KK KK N e 0 = 0 := by rw [← hKK]; exact hev.out
            have hnk : ¬ KK = 0 := by omega
            have hnk2 : (KK == 0) = false := by simpa using hnk
            have hzc2 : (((cz.toNat : Nat) : Int) == 48) = false := by simpa using hzc
            have hi1 : ((i : Int) - 1) = ((i - 1 : Nat) : Int) := by omega
            rw [hKK] at hkk hkk2
            replace hev0 := Lib.hid hev0
            replace hcz := Lib.hid hcz
            replace hKK := Lib.hid hKK
            have hz9 : 1 ≤ i := by omega
            replace hzn := Lib.hid hzn
            clear hall htk hlast hik hp
            have hd0 : S = stp (W ++ R) := hS.out.symm
            replace hd0 := Lib.hid hd0
            rcases hc48 with hq48 | ⟨hq48, hn1⟩
            all_goals
              go_wp2_with fail
              skip
              go_loopg [11] (n + r) (fun g dv wr => ∃ l : List UInt8, dv = .string (strL l) ∧ g = l.length ∧ l ≠ [] ∧ stp l = S ∧ l.length ≤ n + r ∧ w1 = wr)
              case atStart => exact ⟨W ++ R, rfl, by rw [List.length_append, hn.out, hr.out], by rw [hc0.out]; simp, hS.out, by rw [List.length_append, hn.out, hr.out]; exact Nat.le_refl _, rfl⟩
              case round =>
                obtain ⟨l, rfl, hgl, hlne, hst, hlb, rfl⟩ := hrel
                have hsz := strL_size l
                obtain ⟨m, hm⟩ : ∃ m, l.length = m := ⟨_, rfl⟩
                rw [hm] at hsz hgl hlb
                by_cases h48 : ∃ d t, l = 48 :: d :: t
                · obtain ⟨d, t, hlt⟩ := h48
                  have hg0 : ∀ h : 0 < (strL l).size, (strL l)[0] = 48 := fun h => by rw [strL_get, hlt]; rfl
                  have hex : (strL l).extract 1 m = strL (d :: t) := by rw [hlt]; exact strL_tail 48 (d :: t) m (by rw [← hlt]; exact hm)
                  have hm2 : m = t.length + 2 := by rw [← hm, hlt]; simp
                  have hm1 : (1 : Int) < (m : Int) := by omega
                  have hm0 : 0 < m := by omega
                  have hst2 : stp (d :: t) = S := by rw [← hst, hlt, stp_step]
                  have hlen : (d :: t).length = gk - 1 ∧ (d :: t).length ≤ n + r ∧ 0 < gk := by simp; omega
                  replace hlen := Lib.hid hlen
                  replace hst2 := Lib.hid hst2
                  replace hlt := Lib.hid hlt
                  replace hm2 := Lib.hid hm2
                  clear hst hgl
                  go_wp2
                  go_roundg (gk - 1)
                  case measure => have := hlen.out; omega
                  case rel => exact ⟨d :: t, rfl, hlen.out.1.symm, by simp, hst2.out, hlen.out.2.1, rfl⟩
                · have hlS : l = S := by
                    rw [← hst]
                    refine (stp_done ?_).symm
                    match l, hlne, h48 with
                    | [c], _, _ => exact .inl (by simp)
                    | c :: d :: t, _, h => exact .inr ⟨c, d :: t, rfl, fun e9 => h ⟨d, t, by rw [e9]⟩⟩
                  subst hlS
                  have hex : ¬ (1 : Int) < (m : Int) ∨ (1 : Int) < (m : Int) ∧ ∃ c : UInt8, (∀ h : 0 < (strL l).size, (strL l)[0] = c) ∧ ¬ (c.toNat : Int) = 48 := by
                    by_cases h1 : 1 < m
                    · refine .inr ⟨by omega, l.getD 0 0, fun h => strL_get l 0 h, fun e9 => h48 ?_⟩
                      match l, hm with
                      | c :: d :: t, _ => exact ⟨d, t, by rw [show c = 48 from UInt8.toNat_inj.1 (by show c.toNat = 48; have : ((c.toNat : Nat) : Int) = 48 := e9; omega)]⟩
                      | [c], h9 => simp at h9; omega
                      | [], h9 => simp at h9; omega
                    · exact .inl (by omega)
                  have hmb : m ≤ 2000 := by omega
                  have hnum := number_any (strL l) w1
                  rw [show (strL l).data.toList = l by unfold strL; simp] at hnum
                  clear hgl hlne h48 hlb hst
                  rcases hex with hx1 | ⟨hx1, cx, hx2, hx3⟩
                  all_goals
                    go_wp2_with fail
                    refine hnum.mono ?_
                    rintro x w2 ⟨⟨hp2, dv2, rfl, hD⟩ | ⟨hp2, -⟩, hb2⟩
                    all_goals first | exact absurd hSp.out hp2 | skip
                    have hB2 := hb1.trans (hb2.mono hb1.size)
                    have hlen2 : l.length ≤ 2000 := hSp.out.len
                    have hwd := (words_any _ hD (by omega)).mono fun x w' h => TellsW.isT (k := K2) h (Nat.lt_of_lt_of_le (IsH.lt hD) (Nat.le_trans (Nat.pow_le_pow_left (by decide) _) (Nat.pow_le_pow_right (by decide) (Nat.le_trans hlen2 hK2))))
                    clear hnum hb2 hb1
                    go_wp2_with fail
                    refine hwd.mono ?_
                    rintro x w3 ⟨v3, rfl, hv3, hb3⟩
                    obtain ⟨A3, n3, c3, rfl⟩ := isT_sl hv3
                    have hB3 := hB2.trans (hb3.mono hB2.size)
                    have hal := (Below.refl w3.heap.size w3).alloc (Nat.le_refl _) (.cells #[.bool false, .slice A3 n3 c3, .int .i64 KK, .int .i64 KK] 71)
                    have hB4 := hB3.trans (hal.mono hB3.size)
                    have hv4 := hv3.below hal
                    have hI4 := pBlk_made w3 #[.bool false, .slice A3 n3 c3, .int .i64 KK, .int .i64 KK] 71
                    have hh2 := hha.out _ hB4
                    clear hwd hB2 hb3 hD hal hv3
                    go_wp2_with fail
                    refine hh2.mono ?_
                    rintro x w5 ⟨v5, rfl, hv5, hb5, -⟩
                    have hB5 := hB4.trans (hb5.mono hB4.size)
                    have hv45 := hv4.below hb5
                    have hI5 := pBlk_st _ _ _ _ _ hI4 hb5
                    have hwd2 := (words_any _ hv5 (by omega)).mono fun x w' h => TellsW.isT (k := 64) h hNb.out
                    clear hh2 hB3 hB4 hb5 hv4 hI4 hv5
                    go_wp2_with fail
                    refine hwd2.mono ?_
                    rintro x w6 ⟨v6, rfl, hv6, hb6⟩
                    obtain ⟨A6, n6, c6, rfl⟩ := isT_sl hv6
                    have hB6 := hB5.trans (hb6.mono hB5.size)
                    have hal2 := (Below.refl w6.heap.size w6).alloc (Nat.le_refl _) (.cells #[.bool false, .slice A6 n6 c6, .int .i64 e, .int .i64 0] 71)
                    have hB7 := hB6.trans (hal2.mono hB6.size)
                    have hv47 := (hv45.below hb6).below hal2
                    have hv67 := hv6.below hal2
                    have hI7 := pBlk_st _ _ _ _ _ (pBlk_st _ _ _ _ _ hI5 hb6) hal2
                    have hJ7 := pBlk_made w6 #[.bool false, .slice A6 n6 c6, .int .i64 e, .int .i64 0] 71
                    have hcm := fun W9 h1 h2 => rcmp2_any (d1 := .slice A3 n3 c3) (d2 := .slice A6 n6 c6) (k1 := K2) (k2 := 64) (N1 := numV l) (N2 := N) false false KK KK e 0 W9 h1 h2 (by omega) (by omega) (by omega) (by omega) (by omega) (by omega)
                    have hcm7 := hcm _ hv47.isN hv67.isN
                    rw [hev0.out] at hcm7
                    obtain ⟨p0, p1, p2, p3⟩ := cells4Q hI7
                    obtain ⟨r0', r1', r2', r3'⟩ := cells4Q hJ7
                    have l1 := hI7.lt
                    have l2 := hJ7.lt
                    clear hwd2 hB5 hB6 hb6 hal2 hv45 hv6 hI5 hI7 hJ7 hcm hv47 hv67
                    go_wp2_with fail
                    refine hcm7.mono ?_
                    rintro x w8 ⟨rfl, hb8⟩
                    have hfin := hB7.trans (hb8.mono hB7.size)
                    go_wp2
                    go_ret
                    exact ⟨rfl, hfin⟩
        · have hin : (i : Int) < (z : Int) := by omega
          have hil : i < q.length := by have := hz.out; omega
          obtain ⟨c, hc⟩ : ∃ c, q.getD i 0 = c := ⟨_, rfl⟩
          have hg : ∀ h : i < (strL q).size, (strL q)[i] = c := fun h => by rw [strL_get, hc]
          have hat1 := hat.out i (by have := hz.out; omega)
          rw [hc] at hat1
          by_cases hpn : i = n
          · have hc46 : c = 46 := hat1.1.2 hpn
            subst hc46
            have hpp : isP n i = -1 := isP_neg (by omega)
            have hpd := isD_point q i hil hc
            have hpq : isP n (i + 1) = (i : Int) := by rw [hpn]; exact isP_point n
            rw [hpp]
            replace hpn := Lib.hid hpn
            replace hc := Lib.hid hc
            replace hpd := Lib.hid hpd
            replace hpq := Lib.hid hpq
            clear hat1 hil
            go_wp2
            go_roundg (gk - 1)
            case measure => omega
            case rel => exact ⟨i + 1, by rw [hpq.out], by rw [hpd.out], by go_num, by omega, rfl⟩
          · have hdig := hat1.2 hpn
            have hnc : ¬ c = 46 := fun h9 => hpn (hat1.1.1 h9)
            have hn46 : ¬ (c.toNat : Int) = 46 := fun h9 => hnc (UInt8.toNat_inj.1 (by show c.toNat = 46; omega))
            have hdb := not_dig hdig
            have hlo : ¬ (c.toNat : Int) < 48 := by
              have := qdig_bnd hdig
              omega
            have hhi : ¬ (57 : Int) < (c.toNat : Int) := by
              have := qdig_bnd hdig
              omega
            have hxt : (strL q).extract i (i + 1) = strL [c] := by rw [strL_ext q i hil, hc]
            have hcat := cat_two (isD q i) [c]
            have hpd := isD_digit q i hil (by rw [hc]; exact hnc)
            rw [hc] at hpd
            rw [← hpd] at hcat
            have hpq := isP_other hpn
            have hDs := strL_size (isD q i)
            have hDl : (isD q i).length ≤ i := by
              unfold isD
              refine Nat.le_trans (List.length_filter_le _ _) ?_
              rw [List.length_take]
              omega
            obtain ⟨D, hD⟩ : ∃ D, isD q i = D := ⟨_, rfl⟩
            obtain ⟨PP, hPP⟩ : ∃ PP, isP n i = PP := ⟨_, rfl⟩
            have hPPb : -1 ≤ PP ∧ PP ≤ 3000 := by rw [← hPP]; unfold isP; split <;> omega
            rw [hD] at hcat hDs hDl ⊢
            rw [hPP] at hpq ⊢
            have hcs : (strL [c]).size = 1 := strL_size [c]
            replace hpd := Lib.hid hpd
            replace hpq := Lib.hid hpq
            replace hc := Lib.hid hc
            replace hdb := Lib.hid hdb
            replace hdig := Lib.hid hdig
            replace hD := Lib.hid hD
            replace hPP := Lib.hid hPP
            replace hpn := Lib.hid hpn
            clear hat1 hil hnc
            go_wp2
            go_roundg (gk - 1)
            case measure => omega
            case rel => exact ⟨i + 1, by rw [hpq.out], by first | rfl | rw [hcat], by go_num, by omega, rfl⟩
  · go_enter Tryz.func18, Tryz.ntmps18
    go_wp2_with fail
    refine (hha.out _ (Below.refl _ _)).mono ?_
    rintro x w1 ⟨v1, rfl, hh, hb1, -⟩
    obtain ⟨A1, m1, c1, rfl, hz1⟩ := isH_zero hh
    have hm0 : (m1 : Int) = 0 := by have := hz1.2 h0; omega
    clear hh
    · skip
      go_wp2
      go_loopg [10, 11, 12] z (fun g pv dv iv wr => ∃ i : Nat, pv = .int .i64 (isP n i) ∧ dv = .string (strL (isD q i)) ∧ iv = .int .i64 i ∧ i + g = z ∧ w1 = wr)
      case atStart => exact ⟨0, by rw [isP_zero], by rw [isD_zero]; rfl, rfl, by omega, rfl⟩
      case round =>
        obtain ⟨i, rfl, rfl, rfl, hik, rfl⟩ := hrel
        by_cases hk0 : gk = 0
        · obtain rfl : i = z := by omega
          have hnz : ¬ (i : Int) < (i : Int) := by omega
          rw [hall.out]
          have hgW : ∀ h : 0 < (strL W).size, (strL W)[0] = c0 := fun h => by rw [strL_get, hc0.out]; rfl
          have hEW : (strL W).toList.isEmpty = false := strL_emp (by rw [hc0.out]; simp)
          have hszW : (strL W).size = n := by rw [strL_size]; exact hn.out
          have hc48 : (¬ (c0.toNat : Int) = 48) ∨ ((c0.toNat : Int) = 48 ∧ ¬ (1 : Int) < (n : Int)) := by
            by_cases h9 : c0 = 48
            · right
              have h8 := hn.out
              rw [hc0.out, hc1.out h9] at h8
              refine ⟨by rw [h9]; rfl, ?_⟩
              simp at h8
              omega
            · left
              intro h8
              exact h9 (UInt8.toNat_inj.1 (by show c0.toNat = 48; omega))
          have hn0 : 0 < n := by omega
          rcases hpt with ⟨hR0, hzn⟩ | ⟨hr0, hzn, hlast⟩
          · obtain rfl : n = i := hzn.symm
            have hp : isP n n = -1 := isP_neg (Nat.le_refl _)
            rw [hp]
            have hr9 : r = 0 := by rw [← hr.out, hR0]; rfl
            have hqW : W = q := by have h9 := htk.out; rw [← hz.out, List.take_length] at h9; exact h9.symm
            subst hqW
            have hev0 : exC (numV S) 0 0 N e 0 = 0 := by have := hev.out; rw [hr9] at this; exact this
            replace hev0 := Lib.hid hev0
            replace hR0 := Lib.hid hR0
            clear hall htk
            have hd0 : S = stp (W ++ R) := hS.out.symm
            replace hd0 := Lib.hid hd0
            rcases hc48 with hq48 | ⟨hq48, hn1⟩
            all_goals
              go_wp2_with fail
              skip
              go_loopg [11] (n + r) (fun g dv wr => ∃ l : List UInt8, dv = .string (strL l) ∧ g = l.length ∧ l ≠ [] ∧ stp l = S ∧ l.length ≤ n + r ∧ w1 = wr)
              case atStart => exact ⟨W ++ R, rfl, by rw [List.length_append, hn.out, hr.out], by rw [hc0.out]; simp, hS.out, by rw [List.length_append, hn.out, hr.out]; exact Nat.le_refl _, rfl⟩
              case round =>
                obtain ⟨l, rfl, hgl, hlne, hst, hlb, rfl⟩ := hrel
                have hsz := strL_size l
                obtain ⟨m, hm⟩ : ∃ m, l.length = m := ⟨_, rfl⟩
                rw [hm] at hsz hgl hlb
                by_cases h48 : ∃ d t, l = 48 :: d :: t
                · obtain ⟨d, t, hlt⟩ := h48
                  have hg0 : ∀ h : 0 < (strL l).size, (strL l)[0] = 48 := fun h => by rw [strL_get, hlt]; rfl
                  have hex : (strL l).extract 1 m = strL (d :: t) := by rw [hlt]; exact strL_tail 48 (d :: t) m (by rw [← hlt]; exact hm)
                  have hm2 : m = t.length + 2 := by rw [← hm, hlt]; simp
                  have hm1 : (1 : Int) < (m : Int) := by omega
                  have hm0 : 0 < m := by omega
                  have hst2 : stp (d :: t) = S := by rw [← hst, hlt, stp_step]
                  have hlen : (d :: t).length = gk - 1 ∧ (d :: t).length ≤ n + r ∧ 0 < gk := by simp; omega
                  replace hlen := Lib.hid hlen
                  replace hst2 := Lib.hid hst2
                  replace hlt := Lib.hid hlt
                  replace hm2 := Lib.hid hm2
                  clear hst hgl
                  go_wp2
                  go_roundg (gk - 1)
                  case measure => have := hlen.out; omega
                  case rel => exact ⟨d :: t, rfl, hlen.out.1.symm, by simp, hst2.out, hlen.out.2.1, rfl⟩
                · have hlS : l = S := by
                    rw [← hst]
                    refine (stp_done ?_).symm
                    match l, hlne, h48 with
                    | [c], _, _ => exact .inl (by simp)
                    | c :: d :: t, _, h => exact .inr ⟨c, d :: t, rfl, fun e9 => h ⟨d, t, by rw [e9]⟩⟩
                  subst hlS
                  have hex : ¬ (1 : Int) < (m : Int) ∨ (1 : Int) < (m : Int) ∧ ∃ c : UInt8, (∀ h : 0 < (strL l).size, (strL l)[0] = c) ∧ ¬ (c.toNat : Int) = 48 := by
                    by_cases h1 : 1 < m
                    · refine .inr ⟨by omega, l.getD 0 0, fun h => strL_get l 0 h, fun e9 => h48 ?_⟩
                      match l, hm with
                      | c :: d :: t, _ => exact ⟨d, t, by rw [show c = 48 from UInt8.toNat_inj.1 (by show c.toNat = 48; have : ((c.toNat : Nat) : Int) = 48 := e9; omega)]⟩
                      | [c], h9 => simp at h9; omega
                      | [], h9 => simp at h9; omega
                    · exact .inl (by omega)
                  have hmb : m ≤ 2000 := by omega
                  have hnum := number_any (strL l) w1
                  rw [show (strL l).data.toList = l by unfold strL; simp] at hnum
                  clear hgl hlne h48 hlb hst
                  rcases hex with hx1 | ⟨hx1, cx, hx2, hx3⟩
                  all_goals
                    go_wp2_with fail
                    refine hnum.mono ?_
                    rintro x w2 ⟨⟨hp2, dv2, rfl, hD⟩ | ⟨hp2, -⟩, hb2⟩
                    all_goals first | exact absurd hSp.out hp2 | skip
                    have hB2 := hb1.trans (hb2.mono hb1.size)
                    have hlen2 : l.length ≤ 2000 := hSp.out.len
                    have hwd := (words_any _ hD (by omega)).mono fun x w' h => TellsW.isT (k := K2) h (Nat.lt_of_lt_of_le (IsH.lt hD) (Nat.le_trans (Nat.pow_le_pow_left (by decide) _) (Nat.pow_le_pow_right (by decide) (Nat.le_trans hlen2 hK2))))
                    clear hnum hb2 hb1
                    go_wp2_with fail
                    refine hwd.mono ?_
                    rintro x w3 ⟨v3, rfl, hv3, hb3⟩
                    obtain ⟨A3, n3, c3, rfl⟩ := isT_sl hv3
                    have hB3 := hB2.trans (hb3.mono hB2.size)
                    have hal := (Below.refl w3.heap.size w3).alloc (Nat.le_refl _) (.cells #[.bool false, .slice A3 n3 c3, .int .i64 0, .int .i64 0] 71)
                    have hB4 := hB3.trans (hal.mono hB3.size)
                    have hv4 := hv3.below hal
                    have hI4 := pBlk_made w3 #[.bool false, .slice A3 n3 c3, .int .i64 0, .int .i64 0] 71
                    have hh2 := hha.out _ hB4
                    clear hwd hB2 hb3 hD hal hv3
                    go_wp2_with fail
                    refine hh2.mono ?_
                    rintro x w5 ⟨v5, rfl, hv5, hb5, -⟩
                    have hB5 := hB4.trans (hb5.mono hB4.size)
                    have hv45 := hv4.below hb5
                    have hI5 := pBlk_st _ _ _ _ _ hI4 hb5
                    have hwd2 := (words_any _ hv5 (by omega)).mono fun x w' h => TellsW.isT (k := 64) h hNb.out
                    clear hh2 hB3 hB4 hb5 hv4 hI4 hv5
                    go_wp2_with fail
                    refine hwd2.mono ?_
                    rintro x w6 ⟨v6, rfl, hv6, hb6⟩
                    obtain ⟨A6, n6, c6, rfl⟩ := isT_sl hv6
                    have hB6 := hB5.trans (hb6.mono hB5.size)
                    have hal2 := (Below.refl w6.heap.size w6).alloc (Nat.le_refl _) (.cells #[.bool false, .slice A6 n6 c6, .int .i64 e, .int .i64 0] 71)
                    have hB7 := hB6.trans (hal2.mono hB6.size)
                    have hv47 := (hv45.below hb6).below hal2
                    have hv67 := hv6.below hal2
                    have hI7 := pBlk_st _ _ _ _ _ (pBlk_st _ _ _ _ _ hI5 hb6) hal2
                    have hJ7 := pBlk_made w6 #[.bool false, .slice A6 n6 c6, .int .i64 e, .int .i64 0] 71
                    have hcm := fun W9 h1 h2 => rcmp2_any (d1 := .slice A3 n3 c3) (d2 := .slice A6 n6 c6) (k1 := K2) (k2 := 64) (N1 := numV l) (N2 := N) false false 0 0 e 0 W9 h1 h2 (by omega) (by omega) (by omega) (by omega) (by omega) (by omega)
                    have hcm7 := hcm _ hv47.isN hv67.isN
                    rw [hev0.out] at hcm7
                    obtain ⟨p0, p1, p2, p3⟩ := cells4Q hI7
                    obtain ⟨r0', r1', r2', r3'⟩ := cells4Q hJ7
                    have l1 := hI7.lt
                    have l2 := hJ7.lt
                    clear hwd2 hB5 hB6 hb6 hal2 hv45 hv6 hI5 hI7 hJ7 hcm hv47 hv67
                    go_wp2_with fail
                    refine hcm7.mono ?_
                    rintro x w8 ⟨rfl, hb8⟩
                    have hfin := hB7.trans (hb8.mono hB7.size)
                    go_wp2
                    go_ret
                    exact ⟨rfl, hfin⟩
          · have hp : isP n i = (n : Int) := by unfold isP; rw [if_neg (by omega)]
            rw [hp]
            have htx : (strL q).extract 0 n = strL W := by rw [strL_takeX, htk.out]
            have hkk : IntKind.i64.wrap ((n : Int) + 1 - (i : Int)) = -(r : Int) := by rw [IntKind.wrap_i64]; omega
            have hkk2 : (n : Int) + 1 - (i : Int) = -(r : Int) := by omega
            obtain ⟨KK, hKK⟩ : ∃ KK : Int, -(r : Int) = KK := ⟨_, rfl⟩
            have hKb : -2000 ≤ KK ∧ KK < 0 := by omega
            obtain ⟨cz, hcz⟩ : ∃ cz, q.getD (i - 1) 0 = cz := ⟨_, rfl⟩
            have hgz : ∀ h : i - 1 < (strL q).size, (strL q)[i - 1] = cz := fun h => by rw [strL_get, hcz]
            have hzc : ¬ (cz.toNat : Int) = 48 := fun h9 => by
              refine hlast ?_
              rw [hcz]
              exact UInt8.toNat_inj.1 (by show cz.toNat = 48; omega)
            have hev0 : exC (numV S) KK KK N e 0 = 0 := by rw [← hKK]; exact hev.out
            have hnk : ¬ KK = 0 := by omega
            have hnk2 : (KK == 0) = false := by simpa using hnk
            have hzc2 : (((cz.toNat : Nat) : Int) == 48) = false := by simpa using hzc
            have hi1 : ((i : Int) - 1) = ((i - 1 : Nat) : Int) := by omega
            rw [hKK] at hkk hkk2
            replace hev0 := Lib.hid hev0
            replace hcz := Lib.hid hcz
            replace hKK := Lib.hid hKK
            have hz9 : 1 ≤ i := by omega
            replace hzn := Lib.hid hzn
            clear hall htk hlast hik hp
            have hd0 : S = stp (W ++ R) := hS.out.symm
            replace hd0 := Lib.hid hd0
            rcases hc48 with hq48 | ⟨hq48, hn1⟩
            all_goals
              go_wp2_with fail
              skip
              go_loopg [11] (n + r) (fun g dv wr => ∃ l : List UInt8, dv = .string (strL l) ∧ g = l.length ∧ l ≠ [] ∧ stp l = S ∧ l.length ≤ n + r ∧ w1 = wr)
              case atStart => exact ⟨W ++ R, rfl, by rw [List.length_append, hn.out, hr.out], by rw [hc0.out]; simp, hS.out, by rw [List.length_append, hn.out, hr.out]; exact Nat.le_refl _, rfl⟩
              case round =>
                obtain ⟨l, rfl, hgl, hlne, hst, hlb, rfl⟩ := hrel
                have hsz := strL_size l
                obtain ⟨m, hm⟩ : ∃ m, l.length = m := ⟨_, rfl⟩
                rw [hm] at hsz hgl hlb
                by_cases h48 : ∃ d t, l = 48 :: d :: t
                · obtain ⟨d, t, hlt⟩ := h48
                  have hg0 : ∀ h : 0 < (strL l).size, (strL l)[0] = 48 := fun h => by rw [strL_get, hlt]; rfl
                  have hex : (strL l).extract 1 m = strL (d :: t) := by rw [hlt]; exact strL_tail 48 (d :: t) m (by rw [← hlt]; exact hm)
                  have hm2 : m = t.length + 2 := by rw [← hm, hlt]; simp
                  have hm1 : (1 : Int) < (m : Int) := by omega
                  have hm0 : 0 < m := by omega
                  have hst2 : stp (d :: t) = S := by rw [← hst, hlt, stp_step]
                  have hlen : (d :: t).length = gk - 1 ∧ (d :: t).length ≤ n + r ∧ 0 < gk := by simp; omega
                  replace hlen := Lib.hid hlen
                  replace hst2 := Lib.hid hst2
                  replace hlt := Lib.hid hlt
                  replace hm2 := Lib.hid hm2
                  clear hst hgl
                  go_wp2
                  go_roundg (gk - 1)
                  case measure => have := hlen.out; omega
                  case rel => exact ⟨d :: t, rfl, hlen.out.1.symm, by simp, hst2.out, hlen.out.2.1, rfl⟩
                · have hlS : l = S := by
                    rw [← hst]
                    refine (stp_done ?_).symm
                    match l, hlne, h48 with
                    | [c], _, _ => exact .inl (by simp)
                    | c :: d :: t, _, h => exact .inr ⟨c, d :: t, rfl, fun e9 => h ⟨d, t, by rw [e9]⟩⟩
                  subst hlS
                  have hex : ¬ (1 : Int) < (m : Int) ∨ (1 : Int) < (m : Int) ∧ ∃ c : UInt8, (∀ h : 0 < (strL l).size, (strL l)[0] = c) ∧ ¬ (c.toNat : Int) = 48 := by
                    by_cases h1 : 1 < m
                    · refine .inr ⟨by omega, l.getD 0 0, fun h => strL_get l 0 h, fun e9 => h48 ?_⟩
                      match l, hm with
                      | c :: d :: t, _ => exact ⟨d, t, by rw [show c = 48 from UInt8.toNat_inj.1 (by show c.toNat = 48; have : ((c.toNat : Nat) : Int) = 48 := e9; omega)]⟩
                      | [c], h9 => simp at h9; omega
                      | [], h9 => simp at h9; omega
                    · exact .inl (by omega)
                  have hmb : m ≤ 2000 := by omega
                  have hnum := number_any (strL l) w1
                  rw [show (strL l).data.toList = l by unfold strL; simp] at hnum
                  clear hgl hlne h48 hlb hst
                  rcases hex with hx1 | ⟨hx1, cx, hx2, hx3⟩
                  all_goals
                    go_wp2_with fail
                    refine hnum.mono ?_
                    rintro x w2 ⟨⟨hp2, dv2, rfl, hD⟩ | ⟨hp2, -⟩, hb2⟩
                    all_goals first | exact absurd hSp.out hp2 | skip
                    have hB2 := hb1.trans (hb2.mono hb1.size)
                    have hlen2 : l.length ≤ 2000 := hSp.out.len
                    have hwd := (words_any _ hD (by omega)).mono fun x w' h => TellsW.isT (k := K2) h (Nat.lt_of_lt_of_le (IsH.lt hD) (Nat.le_trans (Nat.pow_le_pow_left (by decide) _) (Nat.pow_le_pow_right (by decide) (Nat.le_trans hlen2 hK2))))
                    clear hnum hb2 hb1
                    go_wp2_with fail
                    refine hwd.mono ?_
                    rintro x w3 ⟨v3, rfl, hv3, hb3⟩
                    obtain ⟨A3, n3, c3, rfl⟩ := isT_sl hv3
                    have hB3 := hB2.trans (hb3.mono hB2.size)
                    have hal := (Below.refl w3.heap.size w3).alloc (Nat.le_refl _) (.cells #[.bool false, .slice A3 n3 c3, .int .i64 KK, .int .i64 KK] 71)
                    have hB4 := hB3.trans (hal.mono hB3.size)
                    have hv4 := hv3.below hal
                    have hI4 := pBlk_made w3 #[.bool false, .slice A3 n3 c3, .int .i64 KK, .int .i64 KK] 71
                    have hh2 := hha.out _ hB4
                    clear hwd hB2 hb3 hD hal hv3
                    go_wp2_with fail
                    refine hh2.mono ?_
                    rintro x w5 ⟨v5, rfl, hv5, hb5, -⟩
                    have hB5 := hB4.trans (hb5.mono hB4.size)
                    have hv45 := hv4.below hb5
                    have hI5 := pBlk_st _ _ _ _ _ hI4 hb5
                    have hwd2 := (words_any _ hv5 (by omega)).mono fun x w' h => TellsW.isT (k := 64) h hNb.out
                    clear hh2 hB3 hB4 hb5 hv4 hI4 hv5
                    go_wp2_with fail
                    refine hwd2.mono ?_
                    rintro x w6 ⟨v6, rfl, hv6, hb6⟩
                    obtain ⟨A6, n6, c6, rfl⟩ := isT_sl hv6
                    have hB6 := hB5.trans (hb6.mono hB5.size)
                    have hal2 := (Below.refl w6.heap.size w6).alloc (Nat.le_refl _) (.cells #[.bool false, .slice A6 n6 c6, .int .i64 e, .int .i64 0] 71)
                    have hB7 := hB6.trans (hal2.mono hB6.size)
                    have hv47 := (hv45.below hb6).below hal2
                    have hv67 := hv6.below hal2
                    have hI7 := pBlk_st _ _ _ _ _ (pBlk_st _ _ _ _ _ hI5 hb6) hal2
                    have hJ7 := pBlk_made w6 #[.bool false, .slice A6 n6 c6, .int .i64 e, .int .i64 0] 71
                    have hcm := fun W9 h1 h2 => rcmp2_any (d1 := .slice A3 n3 c3) (d2 := .slice A6 n6 c6) (k1 := K2) (k2 := 64) (N1 := numV l) (N2 := N) false false KK KK e 0 W9 h1 h2 (by omega) (by omega) (by omega) (by omega) (by omega) (by omega)
                    have hcm7 := hcm _ hv47.isN hv67.isN
                    rw [hev0.out] at hcm7
                    obtain ⟨p0, p1, p2, p3⟩ := cells4Q hI7
                    obtain ⟨r0', r1', r2', r3'⟩ := cells4Q hJ7
                    have l1 := hI7.lt
                    have l2 := hJ7.lt
                    clear hwd2 hB5 hB6 hb6 hal2 hv45 hv6 hI5 hI7 hJ7 hcm hv47 hv67
                    go_wp2_with fail
                    refine hcm7.mono ?_
                    rintro x w8 ⟨rfl, hb8⟩
                    have hfin := hB7.trans (hb8.mono hB7.size)
                    go_wp2
                    go_ret
                    exact ⟨rfl, hfin⟩
        · have hin : (i : Int) < (z : Int) := by omega
          have hil : i < q.length := by have := hz.out; omega
          obtain ⟨c, hc⟩ : ∃ c, q.getD i 0 = c := ⟨_, rfl⟩
          have hg : ∀ h : i < (strL q).size, (strL q)[i] = c := fun h => by rw [strL_get, hc]
          have hat1 := hat.out i (by have := hz.out; omega)
          rw [hc] at hat1
          by_cases hpn : i = n
          · have hc46 : c = 46 := hat1.1.2 hpn
            subst hc46
            have hpp : isP n i = -1 := isP_neg (by omega)
            have hpd := isD_point q i hil hc
            have hpq : isP n (i + 1) = (i : Int) := by rw [hpn]; exact isP_point n
            rw [hpp]
            replace hpn := Lib.hid hpn
            replace hc := Lib.hid hc
            replace hpd := Lib.hid hpd
            replace hpq := Lib.hid hpq
            clear hat1 hil
            go_wp2
            go_roundg (gk - 1)
            case measure => omega
            case rel => exact ⟨i + 1, by rw [hpq.out], by rw [hpd.out], by go_num, by omega, rfl⟩
          · have hdig := hat1.2 hpn
            have hnc : ¬ c = 46 := fun h9 => hpn (hat1.1.1 h9)
            have hn46 : ¬ (c.toNat : Int) = 46 := fun h9 => hnc (UInt8.toNat_inj.1 (by show c.toNat = 46; omega))
            have hdb := not_dig hdig
            have hlo : ¬ (c.toNat : Int) < 48 := by
              have := qdig_bnd hdig
              omega
            have hhi : ¬ (57 : Int) < (c.toNat : Int) := by
              have := qdig_bnd hdig
              omega
            have hxt : (strL q).extract i (i + 1) = strL [c] := by rw [strL_ext q i hil, hc]
            have hcat := cat_two (isD q i) [c]
            have hpd := isD_digit q i hil (by rw [hc]; exact hnc)
            rw [hc] at hpd
            rw [← hpd] at hcat
            have hpq := isP_other hpn
            have hDs := strL_size (isD q i)
            have hDl : (isD q i).length ≤ i := by
              unfold isD
              refine Nat.le_trans (List.length_filter_le _ _) ?_
              rw [List.length_take]
              omega
            obtain ⟨D, hD⟩ : ∃ D, isD q i = D := ⟨_, rfl⟩
            obtain ⟨PP, hPP⟩ : ∃ PP, isP n i = PP := ⟨_, rfl⟩
            have hPPb : -1 ≤ PP ∧ PP ≤ 3000 := by rw [← hPP]; unfold isP; split <;> omega
            rw [hD] at hcat hDs hDl ⊢
            rw [hPP] at hpq ⊢
            have hcs : (strL [c]).size = 1 := strL_size [c]
            replace hpd := Lib.hid hpd
            replace hpq := Lib.hid hpq
            replace hc := Lib.hid hc
            replace hdb := Lib.hid hdb
            replace hdig := Lib.hid hdig
            replace hD := Lib.hid hD
            replace hPP := Lib.hid hPP
            replace hpn := Lib.hid hpn
            clear hat1 hil hnc
            go_wp2
            go_roundg (gk - 1)
            case measure => omega
            case rel => exact ⟨i + 1, by rw [hpq.out], by first | rfl | rw [hcat], by go_num, by omega, rfl⟩
  · have hg45 : ∀ h : 0 < (strL (45 :: q)).size, (strL (45 :: q))[0] = 45 := fun h => by rw [strL_get]; rfl
    have hsz45 : (strL (45 :: q)).size = z + 1 := by rw [strL_size]; have := hz.out; simp; omega
    have hem45 : (strL (45 :: q)).toList.isEmpty = false := strL_emp (by simp)
    have hex45 : (strL (45 :: q)).extract 1 (z + 1) = strL q := strL_tail 45 q (z + 1) (by have := hz.out; simp; omega)
    go_enter Tryz.func18, Tryz.ntmps18
    go_wp2_with fail
    refine (hha.out _ (Below.refl _ _)).mono ?_
    rintro x w1 ⟨v1, rfl, hh, hb1, -⟩
    obtain ⟨A1, m1, c1, rfl, hz1⟩ := isH_zero hh
    have hm0 : ¬ (m1 : Int) = 0 := by omega
    have hm1 : ((m1 : Int) == 0) = false := by simpa using hm0
    clear hh
    · skip
      go_wp2
      go_loopg [10, 11, 12] z (fun g pv dv iv wr => ∃ i : Nat, pv = .int .i64 (isP n i) ∧ dv = .string (strL (isD q i)) ∧ iv = .int .i64 i ∧ i + g = z ∧ w1 = wr)
      case atStart => exact ⟨0, by rw [isP_zero], by rw [isD_zero]; rfl, rfl, by omega, rfl⟩
      case round =>
        obtain ⟨i, rfl, rfl, rfl, hik, rfl⟩ := hrel
        by_cases hk0 : gk = 0
        · obtain rfl : i = z := by omega
          have hnz : ¬ (i : Int) < (i : Int) := by omega
          rw [hall.out]
          have hgW : ∀ h : 0 < (strL W).size, (strL W)[0] = c0 := fun h => by rw [strL_get, hc0.out]; rfl
          have hEW : (strL W).toList.isEmpty = false := strL_emp (by rw [hc0.out]; simp)
          have hszW : (strL W).size = n := by rw [strL_size]; exact hn.out
          have hc48 : (¬ (c0.toNat : Int) = 48) ∨ ((c0.toNat : Int) = 48 ∧ ¬ (1 : Int) < (n : Int)) := by
            by_cases h9 : c0 = 48
            · right
              have h8 := hn.out
              rw [hc0.out, hc1.out h9] at h8
              refine ⟨by rw [h9]; rfl, ?_⟩
              simp at h8
              omega
            · left
              intro h8
              exact h9 (UInt8.toNat_inj.1 (by show c0.toNat = 48; omega))
          have hn0 : 0 < n := by omega
          rcases hpt with ⟨hR0, hzn⟩ | ⟨hr0, hzn, hlast⟩
          · obtain rfl : n = i := hzn.symm
            have hp : isP n n = -1 := isP_neg (Nat.le_refl _)
            rw [hp]
            have hr9 : r = 0 := by rw [← hr.out, hR0]; rfl
            have hqW : W = q := by have h9 := htk.out; rw [← hz.out, List.take_length] at h9; exact h9.symm
            subst hqW
            have hev0 : exC (numV S) 0 0 N e 0 = 0 := by have := hev.out; rw [hr9] at this; exact this
            replace hev0 := Lib.hid hev0
            replace hR0 := Lib.hid hR0
            clear hall htk
            have hd0 : S = stp (W ++ R) := hS.out.symm
            replace hd0 := Lib.hid hd0
            rcases hc48 with hq48 | ⟨hq48, hn1⟩
            all_goals
              go_wp2_with fail
              skip
              go_loopg [11] (n + r) (fun g dv wr => ∃ l : List UInt8, dv = .string (strL l) ∧ g = l.length ∧ l ≠ [] ∧ stp l = S ∧ l.length ≤ n + r ∧ w1 = wr)
              case atStart => exact ⟨W ++ R, rfl, by rw [List.length_append, hn.out, hr.out], by rw [hc0.out]; simp, hS.out, by rw [List.length_append, hn.out, hr.out]; exact Nat.le_refl _, rfl⟩
              case round =>
                obtain ⟨l, rfl, hgl, hlne, hst, hlb, rfl⟩ := hrel
                have hsz := strL_size l
                obtain ⟨m, hm⟩ : ∃ m, l.length = m := ⟨_, rfl⟩
                rw [hm] at hsz hgl hlb
                by_cases h48 : ∃ d t, l = 48 :: d :: t
                · obtain ⟨d, t, hlt⟩ := h48
                  have hg0 : ∀ h : 0 < (strL l).size, (strL l)[0] = 48 := fun h => by rw [strL_get, hlt]; rfl
                  have hex : (strL l).extract 1 m = strL (d :: t) := by rw [hlt]; exact strL_tail 48 (d :: t) m (by rw [← hlt]; exact hm)
                  have hm2 : m = t.length + 2 := by rw [← hm, hlt]; simp
                  have hm1 : (1 : Int) < (m : Int) := by omega
                  have hm0 : 0 < m := by omega
                  have hst2 : stp (d :: t) = S := by rw [← hst, hlt, stp_step]
                  have hlen : (d :: t).length = gk - 1 ∧ (d :: t).length ≤ n + r ∧ 0 < gk := by simp; omega
                  replace hlen := Lib.hid hlen
                  replace hst2 := Lib.hid hst2
                  replace hlt := Lib.hid hlt
                  replace hm2 := Lib.hid hm2
                  clear hst hgl
                  go_wp2
                  go_roundg (gk - 1)
                  case measure => have := hlen.out; omega
                  case rel => exact ⟨d :: t, rfl, hlen.out.1.symm, by simp, hst2.out, hlen.out.2.1, rfl⟩
                · have hlS : l = S := by
                    rw [← hst]
                    refine (stp_done ?_).symm
                    match l, hlne, h48 with
                    | [c], _, _ => exact .inl (by simp)
                    | c :: d :: t, _, h => exact .inr ⟨c, d :: t, rfl, fun e9 => h ⟨d, t, by rw [e9]⟩⟩
                  subst hlS
                  have hex : ¬ (1 : Int) < (m : Int) ∨ (1 : Int) < (m : Int) ∧ ∃ c : UInt8, (∀ h : 0 < (strL l).size, (strL l)[0] = c) ∧ ¬ (c.toNat : Int) = 48 := by
                    by_cases h1 : 1 < m
                    · refine .inr ⟨by omega, l.getD 0 0, fun h => strL_get l 0 h, fun e9 => h48 ?_⟩
                      match l, hm with
                      | c :: d :: t, _ => exact ⟨d, t, by rw [show c = 48 from UInt8.toNat_inj.1 (by show c.toNat = 48; have : ((c.toNat : Nat) : Int) = 48 := e9; omega)]⟩
                      | [c], h9 => simp at h9; omega
                      | [], h9 => simp at h9; omega
                    · exact .inl (by omega)
                  have hmb : m ≤ 2000 := by omega
                  have hnum := number_any (strL l) w1
                  rw [show (strL l).data.toList = l by unfold strL; simp] at hnum
                  clear hgl hlne h48 hlb hst
                  rcases hex with hx1 | ⟨hx1, cx, hx2, hx3⟩
                  all_goals
                    go_wp2_with fail
                    refine hnum.mono ?_
                    rintro x w2 ⟨⟨hp2, dv2, rfl, hD⟩ | ⟨hp2, -⟩, hb2⟩
                    all_goals first | exact absurd hSp.out hp2 | skip
                    have hB2 := hb1.trans (hb2.mono hb1.size)
                    have hlen2 : l.length ≤ 2000 := hSp.out.len
                    have hwd := (words_any _ hD (by omega)).mono fun x w' h => TellsW.isT (k := K2) h (Nat.lt_of_lt_of_le (IsH.lt hD) (Nat.le_trans (Nat.pow_le_pow_left (by decide) _) (Nat.pow_le_pow_right (by decide) (Nat.le_trans hlen2 hK2))))
                    clear hnum hb2 hb1
                    go_wp2_with fail
                    refine hwd.mono ?_
                    rintro x w3 ⟨v3, rfl, hv3, hb3⟩
                    obtain ⟨A3, n3, c3, rfl⟩ := isT_sl hv3
                    have hB3 := hB2.trans (hb3.mono hB2.size)
                    have hal := (Below.refl w3.heap.size w3).alloc (Nat.le_refl _) (.cells #[.bool false, .slice A3 n3 c3, .int .i64 0, .int .i64 0] 71)
                    have hB4 := hB3.trans (hal.mono hB3.size)
                    have hv4 := hv3.below hal
                    have hI4 := pBlk_made w3 #[.bool false, .slice A3 n3 c3, .int .i64 0, .int .i64 0] 71
                    have hh2 := hha.out _ hB4
                    clear hwd hB2 hb3 hD hal hv3
                    go_wp2_with fail
                    refine hh2.mono ?_
                    rintro x w5 ⟨v5, rfl, hv5, hb5, -⟩
                    have hB5 := hB4.trans (hb5.mono hB4.size)
                    have hv45 := hv4.below hb5
                    have hI5 := pBlk_st _ _ _ _ _ hI4 hb5
                    have hwd2 := (words_any _ hv5 (by omega)).mono fun x w' h => TellsW.isT (k := 64) h hNb.out
                    clear hh2 hB3 hB4 hb5 hv4 hI4 hv5
                    go_wp2_with fail
                    refine hwd2.mono ?_
                    rintro x w6 ⟨v6, rfl, hv6, hb6⟩
                    obtain ⟨A6, n6, c6, rfl⟩ := isT_sl hv6
                    have hB6 := hB5.trans (hb6.mono hB5.size)
                    have hal2 := (Below.refl w6.heap.size w6).alloc (Nat.le_refl _) (.cells #[.bool false, .slice A6 n6 c6, .int .i64 e, .int .i64 0] 71)
                    have hB7 := hB6.trans (hal2.mono hB6.size)
                    have hv47 := (hv45.below hb6).below hal2
                    have hv67 := hv6.below hal2
                    have hI7 := pBlk_st _ _ _ _ _ (pBlk_st _ _ _ _ _ hI5 hb6) hal2
                    have hJ7 := pBlk_made w6 #[.bool false, .slice A6 n6 c6, .int .i64 e, .int .i64 0] 71
                    have hcm := fun W9 h1 h2 => rcmp2_any (d1 := .slice A3 n3 c3) (d2 := .slice A6 n6 c6) (k1 := K2) (k2 := 64) (N1 := numV l) (N2 := N) false false 0 0 e 0 W9 h1 h2 (by omega) (by omega) (by omega) (by omega) (by omega) (by omega)
                    have hcm7 := hcm _ hv47.isN hv67.isN
                    rw [hev0.out] at hcm7
                    obtain ⟨p0, p1, p2, p3⟩ := cells4Q hI7
                    obtain ⟨r0', r1', r2', r3'⟩ := cells4Q hJ7
                    have l1 := hI7.lt
                    have l2 := hJ7.lt
                    clear hwd2 hB5 hB6 hb6 hal2 hv45 hv6 hI5 hI7 hJ7 hcm hv47 hv67
                    go_wp2_with fail
                    refine hcm7.mono ?_
                    rintro x w8 ⟨rfl, hb8⟩
                    have hfin := hB7.trans (hb8.mono hB7.size)
                    go_wp2
                    go_ret
                    exact ⟨rfl, hfin⟩
          · have hp : isP n i = (n : Int) := by unfold isP; rw [if_neg (by omega)]
            rw [hp]
            have htx : (strL q).extract 0 n = strL W := by rw [strL_takeX, htk.out]
            have hkk : IntKind.i64.wrap ((n : Int) + 1 - (i : Int)) = -(r : Int) := by rw [IntKind.wrap_i64]; omega
            have hkk2 : (n : Int) + 1 - (i : Int) = -(r : Int) := by omega
            obtain ⟨KK, hKK⟩ : ∃ KK : Int, -(r : Int) = KK := ⟨_, rfl⟩
            have hKb : -2000 ≤ KK ∧ KK < 0 := by omega
            obtain ⟨cz, hcz⟩ : ∃ cz, q.getD (i - 1) 0 = cz := ⟨_, rfl⟩
            have hgz : ∀ h : i - 1 < (strL q).size, (strL q)[i - 1] = cz := fun h => by rw [strL_get, hcz]
            have hzc : ¬ (cz.toNat : Int) = 48 := fun h9 => by
              refine hlast ?_
              rw [hcz]
              exact UInt8.toNat_inj.1 (by show cz.toNat = 48; omega)
            have hev0 : exC (numV S) KK KK N e 0 = 0 := by rw [← hKK]; exact hev.out
            have hnk : ¬ KK = 0 := by omega
            have hnk2 : (KK == 0) = false := by simpa using hnk
            have hzc2 : (((cz.toNat : Nat) : Int) == 48) = false := by simpa using hzc
            have hi1 : ((i : Int) - 1) = ((i - 1 : Nat) : Int) := by omega
            rw [hKK] at hkk hkk2
            replace hev0 := Lib.hid hev0
            replace hcz := Lib.hid hcz
            replace hKK := Lib.hid hKK
            have hz9 : 1 ≤ i := by omega
            replace hzn := Lib.hid hzn
            clear hall htk hlast hik hp
            have hd0 : S = stp (W ++ R) := hS.out.symm
            replace hd0 := Lib.hid hd0
            rcases hc48 with hq48 | ⟨hq48, hn1⟩
            all_goals
              go_wp2_with fail
              skip
              go_loopg [11] (n + r) (fun g dv wr => ∃ l : List UInt8, dv = .string (strL l) ∧ g = l.length ∧ l ≠ [] ∧ stp l = S ∧ l.length ≤ n + r ∧ w1 = wr)
              case atStart => exact ⟨W ++ R, rfl, by rw [List.length_append, hn.out, hr.out], by rw [hc0.out]; simp, hS.out, by rw [List.length_append, hn.out, hr.out]; exact Nat.le_refl _, rfl⟩
              case round =>
                obtain ⟨l, rfl, hgl, hlne, hst, hlb, rfl⟩ := hrel
                have hsz := strL_size l
                obtain ⟨m, hm⟩ : ∃ m, l.length = m := ⟨_, rfl⟩
                rw [hm] at hsz hgl hlb
                by_cases h48 : ∃ d t, l = 48 :: d :: t
                · obtain ⟨d, t, hlt⟩ := h48
                  have hg0 : ∀ h : 0 < (strL l).size, (strL l)[0] = 48 := fun h => by rw [strL_get, hlt]; rfl
                  have hex : (strL l).extract 1 m = strL (d :: t) := by rw [hlt]; exact strL_tail 48 (d :: t) m (by rw [← hlt]; exact hm)
                  have hm2 : m = t.length + 2 := by rw [← hm, hlt]; simp
                  have hm1 : (1 : Int) < (m : Int) := by omega
                  have hm0 : 0 < m := by omega
                  have hst2 : stp (d :: t) = S := by rw [← hst, hlt, stp_step]
                  have hlen : (d :: t).length = gk - 1 ∧ (d :: t).length ≤ n + r ∧ 0 < gk := by simp; omega
                  replace hlen := Lib.hid hlen
                  replace hst2 := Lib.hid hst2
                  replace hlt := Lib.hid hlt
                  replace hm2 := Lib.hid hm2
                  clear hst hgl
                  go_wp2
                  go_roundg (gk - 1)
                  case measure => have := hlen.out; omega
                  case rel => exact ⟨d :: t, rfl, hlen.out.1.symm, by simp, hst2.out, hlen.out.2.1, rfl⟩
                · have hlS : l = S := by
                    rw [← hst]
                    refine (stp_done ?_).symm
                    match l, hlne, h48 with
                    | [c], _, _ => exact .inl (by simp)
                    | c :: d :: t, _, h => exact .inr ⟨c, d :: t, rfl, fun e9 => h ⟨d, t, by rw [e9]⟩⟩
                  subst hlS
                  have hex : ¬ (1 : Int) < (m : Int) ∨ (1 : Int) < (m : Int) ∧ ∃ c : UInt8, (∀ h : 0 < (strL l).size, (strL l)[0] = c) ∧ ¬ (c.toNat : Int) = 48 := by
                    by_cases h1 : 1 < m
                    · refine .inr ⟨by omega, l.getD 0 0, fun h => strL_get l 0 h, fun e9 => h48 ?_⟩
                      match l, hm with
                      | c :: d :: t, _ => exact ⟨d, t, by rw [show c = 48 from UInt8.toNat_inj.1 (by show c.toNat = 48; have : ((c.toNat : Nat) : Int) = 48 := e9; omega)]⟩
                      | [c], h9 => simp at h9; omega
                      | [], h9 => simp at h9; omega
                    · exact .inl (by omega)
                  have hmb : m ≤ 2000 := by omega
                  have hnum := number_any (strL l) w1
                  rw [show (strL l).data.toList = l by unfold strL; simp] at hnum
                  clear hgl hlne h48 hlb hst
                  rcases hex with hx1 | ⟨hx1, cx, hx2, hx3⟩
                  all_goals
                    go_wp2_with fail
                    refine hnum.mono ?_
                    rintro x w2 ⟨⟨hp2, dv2, rfl, hD⟩ | ⟨hp2, -⟩, hb2⟩
                    all_goals first | exact absurd hSp.out hp2 | skip
                    have hB2 := hb1.trans (hb2.mono hb1.size)
                    have hlen2 : l.length ≤ 2000 := hSp.out.len
                    have hwd := (words_any _ hD (by omega)).mono fun x w' h => TellsW.isT (k := K2) h (Nat.lt_of_lt_of_le (IsH.lt hD) (Nat.le_trans (Nat.pow_le_pow_left (by decide) _) (Nat.pow_le_pow_right (by decide) (Nat.le_trans hlen2 hK2))))
                    clear hnum hb2 hb1
                    go_wp2_with fail
                    refine hwd.mono ?_
                    rintro x w3 ⟨v3, rfl, hv3, hb3⟩
                    obtain ⟨A3, n3, c3, rfl⟩ := isT_sl hv3
                    have hB3 := hB2.trans (hb3.mono hB2.size)
                    have hal := (Below.refl w3.heap.size w3).alloc (Nat.le_refl _) (.cells #[.bool false, .slice A3 n3 c3, .int .i64 KK, .int .i64 KK] 71)
                    have hB4 := hB3.trans (hal.mono hB3.size)
                    have hv4 := hv3.below hal
                    have hI4 := pBlk_made w3 #[.bool false, .slice A3 n3 c3, .int .i64 KK, .int .i64 KK] 71
                    have hh2 := hha.out _ hB4
                    clear hwd hB2 hb3 hD hal hv3
                    go_wp2_with fail
                    refine hh2.mono ?_
                    rintro x w5 ⟨v5, rfl, hv5, hb5, -⟩
                    have hB5 := hB4.trans (hb5.mono hB4.size)
                    have hv45 := hv4.below hb5
                    have hI5 := pBlk_st _ _ _ _ _ hI4 hb5
                    have hwd2 := (words_any _ hv5 (by omega)).mono fun x w' h => TellsW.isT (k := 64) h hNb.out
                    clear hh2 hB3 hB4 hb5 hv4 hI4 hv5
                    go_wp2_with fail
                    refine hwd2.mono ?_
                    rintro x w6 ⟨v6, rfl, hv6, hb6⟩
                    obtain ⟨A6, n6, c6, rfl⟩ := isT_sl hv6
                    have hB6 := hB5.trans (hb6.mono hB5.size)
                    have hal2 := (Below.refl w6.heap.size w6).alloc (Nat.le_refl _) (.cells #[.bool false, .slice A6 n6 c6, .int .i64 e, .int .i64 0] 71)
                    have hB7 := hB6.trans (hal2.mono hB6.size)
                    have hv47 := (hv45.below hb6).below hal2
                    have hv67 := hv6.below hal2
                    have hI7 := pBlk_st _ _ _ _ _ (pBlk_st _ _ _ _ _ hI5 hb6) hal2
                    have hJ7 := pBlk_made w6 #[.bool false, .slice A6 n6 c6, .int .i64 e, .int .i64 0] 71
                    have hcm := fun W9 h1 h2 => rcmp2_any (d1 := .slice A3 n3 c3) (d2 := .slice A6 n6 c6) (k1 := K2) (k2 := 64) (N1 := numV l) (N2 := N) false false KK KK e 0 W9 h1 h2 (by omega) (by omega) (by omega) (by omega) (by omega) (by omega)
                    have hcm7 := hcm _ hv47.isN hv67.isN
                    rw [hev0.out] at hcm7
                    obtain ⟨p0, p1, p2, p3⟩ := cells4Q hI7
                    obtain ⟨r0', r1', r2', r3'⟩ := cells4Q hJ7
                    have l1 := hI7.lt
                    have l2 := hJ7.lt
                    clear hwd2 hB5 hB6 hb6 hal2 hv45 hv6 hI5 hI7 hJ7 hcm hv47 hv67
                    go_wp2_with fail
                    refine hcm7.mono ?_
                    rintro x w8 ⟨rfl, hb8⟩
                    have hfin := hB7.trans (hb8.mono hB7.size)
                    go_wp2
                    go_ret
                    exact ⟨rfl, hfin⟩
        · have hin : (i : Int) < (z : Int) := by omega
          have hil : i < q.length := by have := hz.out; omega
          obtain ⟨c, hc⟩ : ∃ c, q.getD i 0 = c := ⟨_, rfl⟩
          have hg : ∀ h : i < (strL q).size, (strL q)[i] = c := fun h => by rw [strL_get, hc]
          have hat1 := hat.out i (by have := hz.out; omega)
          rw [hc] at hat1
          by_cases hpn : i = n
          · have hc46 : c = 46 := hat1.1.2 hpn
            subst hc46
            have hpp : isP n i = -1 := isP_neg (by omega)
            have hpd := isD_point q i hil hc
            have hpq : isP n (i + 1) = (i : Int) := by rw [hpn]; exact isP_point n
            rw [hpp]
            replace hpn := Lib.hid hpn
            replace hc := Lib.hid hc
            replace hpd := Lib.hid hpd
            replace hpq := Lib.hid hpq
            clear hat1 hil
            go_wp2
            go_roundg (gk - 1)
            case measure => omega
            case rel => exact ⟨i + 1, by rw [hpq.out], by rw [hpd.out], by go_num, by omega, rfl⟩
          · have hdig := hat1.2 hpn
            have hnc : ¬ c = 46 := fun h9 => hpn (hat1.1.1 h9)
            have hn46 : ¬ (c.toNat : Int) = 46 := fun h9 => hnc (UInt8.toNat_inj.1 (by show c.toNat = 46; omega))
            have hdb := not_dig hdig
            have hlo : ¬ (c.toNat : Int) < 48 := by
              have := qdig_bnd hdig
              omega
            have hhi : ¬ (57 : Int) < (c.toNat : Int) := by
              have := qdig_bnd hdig
              omega
            have hxt : (strL q).extract i (i + 1) = strL [c] := by rw [strL_ext q i hil, hc]
            have hcat := cat_two (isD q i) [c]
            have hpd := isD_digit q i hil (by rw [hc]; exact hnc)
            rw [hc] at hpd
            rw [← hpd] at hcat
            have hpq := isP_other hpn
            have hDs := strL_size (isD q i)
            have hDl : (isD q i).length ≤ i := by
              unfold isD
              refine Nat.le_trans (List.length_filter_le _ _) ?_
              rw [List.length_take]
              omega
            obtain ⟨D, hD⟩ : ∃ D, isD q i = D := ⟨_, rfl⟩
            obtain ⟨PP, hPP⟩ : ∃ PP, isP n i = PP := ⟨_, rfl⟩
            have hPPb : -1 ≤ PP ∧ PP ≤ 3000 := by rw [← hPP]; unfold isP; split <;> omega
            rw [hD] at hcat hDs hDl ⊢
            rw [hPP] at hpq ⊢
            have hcs : (strL [c]).size = 1 := strL_size [c]
            replace hpd := Lib.hid hpd
            replace hpq := Lib.hid hpq
            replace hc := Lib.hid hc
            replace hdb := Lib.hid hdb
            replace hdig := Lib.hid hdig
            replace hD := Lib.hid hD
            replace hPP := Lib.hid hPP
            replace hpn := Lib.hid hpn
            clear hat1 hil hnc
            go_wp2
            go_roundg (gk - 1)
            case measure => omega
            case rel => exact ⟨i + 1, by rw [hpq.out], by first | rfl | rw [hcat], by go_num, by omega, rfl⟩
end Go.Proofs.YtncfbleeidjflaaGreatDoor
