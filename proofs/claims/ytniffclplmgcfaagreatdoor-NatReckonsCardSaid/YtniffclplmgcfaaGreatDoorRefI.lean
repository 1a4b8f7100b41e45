/- The document's half words, eighth part: numerals and what they are worth. Conditions: a number's half words are counted. -/
import Derived.Test.YtniffclplmgcfaaGreatDoorRefH
namespace Go.Proofs.YtniffclplmgcfaaGreatDoor
open Go.RowKit Go.Cal
theorem under_bytes : Tryz.prog.underlying 84 = some (.slice 5) := by kernel_rfl
theorem under_byte : Tryz.prog.underlying 5 = some (.int .u8) := by kernel_rfl
theorem under_str : Tryz.prog.underlying 9 = some .string := by kernel_rfl
theorem info_u8 : (Tryz.prog.info? 5).map (fun i => (i.zero, i.size, i.bytes)) = some (some (.int .u8 0), 1, 1) := by kernel_rfl
theorem own_shape {w : World} {base n size : Nat} {t : TypeId} {v : Value} {xs : List Value} (h : w.ownsRow base t size v n xs) : ∃ A cap, v = .slice A n cap := by
  obtain ⟨_, ⟨rfl, rfl⟩ | ⟨g, cap, cur, rfl, _⟩⟩ := h
  · exact ⟨_, _, rfl⟩
  · exact ⟨_, _, rfl⟩
theorem nrmH_pos {zs : List Nat} {N : Nat} (h : NrmH zs N) : 0 < zs.length ↔ 0 < N := by
  constructor
  · intro h0
    have h1 := vl_pos (b := 4294967296) h.top (by intro e; subst e; simp at h0)
    rw [h.val] at h1
    have := Nat.pow_pos (n := zs.length - 1) (show 0 < 4294967296 by omega)
    omega
  · intro h0
    rcases Nat.eq_zero_or_pos zs.length with h1 | h1
    · have := h.val
      rw [List.eq_nil_of_length_eq_zero h1] at this
      simp [vl] at this; omega
    · exact h1
set_option maxRecDepth 100000 in
set_option maxHeartbeats 4000000 in
theorem digits_any {v1 : Value} {k1 X : Nat} (w : World) (h1 : IsH w v1 k1 X) (b1 : k1 ≤ 32768) :
    Calls Tryz.prog 36 #[v1] w fun e w' => e = .returned (.string ⟨(Lib.decDigits X).toArray⟩) ∧ Below w.heap.size w w' := by
  have hX : X < 2 ^ (32 * k1) := by rw [Nat.pow_mul]; exact h1.lt
  obtain ⟨i0, hi, hi0, hi1, hi2⟩ := info_parts info_u8
  have hb0 : Below w.heap.size w (w.alloc (.cells #[] 5)) := (Below.refl _ _).alloc (Nat.le_refl _) _
  have h1' : pH v1 k1 X (w.alloc (.cells #[] 5)) := h1.below hb0
  replace hX := Lib.hid hX
  clear h1
  go_enter Tryz.func36, Tryz.ntmps36
  go_wp2
  go_loopg [0, 3] (2 * X + 1) (fun k av ov wr => ∃ (n N : Nat) (L : List UInt8), k = 2 * N + (if n = 0 then 1 else 0) ∧ pH av k1 N wr ∧ wr.ownsRow w.heap.size 5 1 ov n (lB L) ∧ n ≤ 32 * k1 + 1 ∧ Below w.heap.size w wr ∧ DigR X n N L)
  case atStart => exact ⟨0, X, [], by simp, h1', World.ownsRow_lit w #[] 0 (Nat.le_refl _) (by unfold maxLen; omega) rfl, by omega, hb0, .start X⟩
  case round =>
    clear h1' hb0
    obtain ⟨n, N, L, hgk, ⟨A, c, zs, rfl, hr, hc, hm, hl, hz⟩, hown, hn, hbw, hR⟩ := hrel
    have hzw := hbw.size
    have hzp := nrmH_pos hz
    have hlen := hR.len
    obtain ⟨g1, rfl⟩ : ∃ g, g = gk := ⟨_, rfl⟩
    by_cases hend : N = 0 ∧ 0 < n
    · obtain ⟨rfl, hn0⟩ := hend
      have hz0 : zs.length = 0 := by omega
      obtain rfl := List.eq_nil_of_length_eq_zero hz0
      have hdone := hR.done hn0
      obtain ⟨g, cap, rfl, hg, hgs, hnc, hcm, hB⟩ := BlkB.of_own hown hlen.symm hn0
      have hne : ((n : Int) == 0) = false := by simp; omega
      obtain ⟨h, hh⟩ : ∃ h, n / 2 = h := ⟨_, rfl⟩
      have hhi : (n : Int) / 2 = (h : Int) := by omega
      have hn9 : n ≤ 1048577 := by omega
      replace hgk := Lib.hid hgk
      replace hlen := Lib.hid hlen
      replace hdone := Lib.hid hdone
      replace hh := Lib.hid hh
      clear hR hown hz hzp hr hz0
      go_wp2
      go_loopg [8] h (fun k iv wr => ∃ (i : Nat) (M : List UInt8), iv = .int .i64 i ∧ i + k = h ∧ BlkB wr g 5 M ∧ Below w.heap.size w wr ∧ TurnR L M i)
      case atStart => exact ⟨0, L, rfl, by omega, hB, hbw, .start L⟩
      case round =>
        clear hB hbw hgs hzw
        obtain ⟨i, M, rfl, hik, hB, hbw, hT⟩ := hrel
        have hh' := hh.out
        have hlen' := hlen.out
        have hMl := hT.len
        by_cases h0 : gk = 0
        · subst h0
          have hie : i = h := by omega
          have hMe := hT.done (by omega)
          have hsz : (⟨M.toArray⟩ : ByteArray).size = n := by show M.toArray.size = n; simp [hMl, hlen']
          have hcv := Lib.run_convert_whole (P := Tryz.prog) wr 84 5 9 under_bytes under_byte under_str g 0 ⟨M.toArray⟩ hB.bytes cap
          rw [hsz] at hcv
          have hge : ¬ (i : Int) < (h : Int) := by omega
          replace hMe := Lib.hid hMe
          replace hie := Lib.hid hie
          clear hT hsz hB hh' hlen' hMl hik
          go_wp2
          go_ret
          exact ⟨by rw [hdone.out, ← hMe.out]; rfl, hbw⟩
        · have hih : (i : Int) < (h : Int) := by omega
          obtain ⟨j, hj⟩ : ∃ j, L.length - 1 - i = j := ⟨_, rfl⟩
          have hji : (n : Int) - 1 - (i : Int) = (j : Int) := by omega
          have hst := hT.step (by omega)
          rw [hj] at hst
          have hlt : i < j := by omega
          have hjn : j < n := by omega
          have hin : (i : Int) < (n : Int) := by omega
          have hjn' : (j : Int) < (n : Int) := by omega
          obtain ⟨bi, hbi⟩ : ∃ b, M.getD i 0 = b := ⟨_, rfl⟩
          obtain ⟨bj, hbj⟩ : ∃ b, M.getD j 0 = b := ⟨_, rfl⟩
          have hci := hB.cell i (by omega)
          have hcj := hB.cell j (by omega)
          rw [hbi] at hci hst
          rw [hbj] at hcj hst
          have hfi := hB.frozen i
          have hB1 := hB.set i bj
          have hcj1 := hB1.cell j (by rw [List.length_set]; omega)
          rw [getB_set_ne (by omega), hbj] at hcj1
          have hfj := hB1.frozen j
          have hB2 := hB1.set j bi
          have hbw2 := (hbw.setCell (p := ⟨g, i, none⟩) hg (.int .u8 (bj.toNat : Int))).setCell (p := ⟨g, j, none⟩) hg (.int .u8 (bi.toNat : Int))
          replace hbi := Lib.hid hbi
          replace hbj := Lib.hid hbj
          replace hj := Lib.hid hj
          clear hT hB hB1 hh' hlen' hMl
          go_wp2
          go_roundg (gk - 1)
          case measure => omega
          case rel => exact ⟨i + 1, _, by go_num, by omega, hB2, hbw2, hst⟩
    · have hcond : 0 < zs.length ∨ (¬ 0 < zs.length ∧ n = 0) := by omega
      have hNn : 0 < N ∨ n = 0 := by omega
      have hn2 : n ≤ 32 * k1 := by
        rcases hNn with h | h
        · exact Nat.le_of_lt (hR.few h hX.out)
        · omega
      have hst := hR.step hNn
      have hmk := run_makeU (P := Tryz.prog) 22 39 under_u64s info_u64 zs.length (by omega)
      have hQk : N / 10 < 4294967296 ^ k1 := by
        have h1 := hz.lt
        have h2 : 4294967296 ^ zs.length ≤ 4294967296 ^ k1 := Nat.pow_le_pow_right (by omega) hl
        have h3 := Nat.div_le_self N 10
        omega
      have hdec : 2 * (N / 10) < g1 := by rw [hgk]; split <;> omega
      replace hgk := Lib.hid hgk
      replace hlen := Lib.hid hlen
      replace hQk := Lib.hid hQk
      replace hdec := Lib.hid hdec
      clear hR hend hzp hNn
      obtain ⟨wo, rfl⟩ : ∃ w0, w0 = wr := ⟨_, rfl⟩
      rcases hcond with hcd | ⟨hcd, rfl⟩
      · go_wp2
        clear hmk
        go_loopg [4, 6] zs.length (fun k lv iv wi => ∃ (left : Nat) (Q : List Nat), iv = .int .i64 k ∧ lv = .int .u64 left ∧ k ≤ zs.length ∧ BlkU wi wo.heap.size 39 Q ∧ Below wo.heap.size wo wi ∧ ShortRel 4294967296 zs Q 10 k left)
        case atStart => exact ⟨0, _, rfl, rfl, Nat.le_refl _, BlkU.made wo 39 _, (Below.refl _ _).alloc (Nat.le_refl _) _, .start (by omega) zs (by omega)⟩
        case round =>
          obtain ⟨left, Q, rfl, rfl, hgz, hB, hbi, hS⟩ := hrel
          have hzi := hbi.size
          have hleft := hS.rest
          have hQl := hS.len
          by_cases h0 : gk = 0
          · subst h0
            have hv := hS.val
            rw [List.drop_zero, List.drop_zero, hz.val] at hv
            have hNl : N % 10 = left := by omega
            have hNq : vl 4294967296 Q = N / 10 := by omega
            rw [hNl] at hst
            obtain ⟨T, hT⟩ : ∃ T, 48 + left = T := ⟨_, rfl⟩
            rw [hT] at hst
            have hTi : (48 : Int) + (left : Int) = (T : Int) := by omega
            have hTb : T < 58 := by omega
            have hTc : (T : Int) = ((UInt8.ofNat T).toNat : Int) := by rw [UInt8.toNat_ofNat']; omega
            have hown2 := own_below hown hbi
            have hbwi := hbw.trans (hbi.mono hzw)
            have hfar : ∀ j, u3.ownBlock = some j → j < wo.heap.size := fun j hj => (hown.lt j hj).2
            replace hTc := Lib.hid hTc
            replace hT := Lib.hid hT
            replace hNl := Lib.hid hNl
            have hQd := hS.dig
            clear hS hv hown
            go_wp2_with (at_builtin; refine wpList_append_own _ rfl _ _ 84 rfl w.heap.size 5 i0 (.int .u8 0) 1 1 under_bytes hi hi0 hi1 hi2 rfl (by decide) u3 n (lB L) rfl (hown2.alloc _) ⟨wr.heap.size, 0, none⟩ 1 1 [.int .u8 T] rfl rfl (one_cell wr 5 _) (fun u hu => by simp at hu; subst hu; rfl) (by unfold maxLen; omega) (by omega) (by simp; omega) ?_)
            intro v' w1 hown' hgr _
            rw [hTc.out, lB_snoc] at hown'
            have hb2 := (hbwi.alloc (Nat.le_trans hzw hzi) (.cells #[.int .u8 (T : Int)] 5)).grown hgr (by simp; omega) (fun j hj => (hown2.lt j hj).1)
            have hlt := hB.lt
            have hB2 : BlkU w1 wo.heap.size 39 Q := (hB.alloc (.cells #[.int .u8 (T : Int)] 5)).same (hgr.block _ (by simp; omega) (fun e => by have := hfar _ e.symm; omega))
            have htr := trim_blk_same (k := k1) hB2 hQl (by omega) hQd hNq hQk.out
            replace htr := Lib.hid htr
            clear hown2 hgr hB hB2 hNq hQd
            go_wp2_with fail
            refine htr.out.mono ?_
            rintro e w2 ⟨u, rfl, hu, rfl⟩
            go_wp2
            go_roundg (2 * (N / 10))
            case measure => exact hdec.out
            case rel => exact ⟨n + 1, _, _, by simp, hu, hown', by omega, hb2, hst⟩
          · obtain ⟨m, rfl⟩ : ∃ m, gk = m + 1 := ⟨gk - 1, by omega⟩
            have hmm : m < zs.length := by omega
            have hmi : (m : Int) < (zs.length : Int) := by omega
            obtain ⟨b, off, rfl, hb, hcx⟩ := (hr.below hbi).at hmm
            have hx0 := hcx m hmm
            clear hcx
            obtain ⟨x, hxx⟩ : ∃ x, zs.getD m 0 = x := ⟨_, rfl⟩
            have hx1 : x < 4294967296 := hxx ▸ dig_getD (by omega) hz.dig m
            rw [hxx] at hx0
            obtain ⟨S, hSS⟩ : ∃ S, left * 4294967296 + x = S := ⟨_, rfl⟩
            have hSi : (left : Int) * 4294967296 + (x : Int) = (S : Int) := by omega
            have hSb : S < 42949672960 := by omega
            have hst2 := hS.step (q := S / 10) (r := S % 10) hmm hxx (by omega) (Nat.mod_lt _ (by omega)) (by rw [hSS]; omega)
            obtain ⟨q, hq⟩ : ∃ q, S / 10 = q := ⟨_, rfl⟩
            obtain ⟨r, hr2⟩ : ∃ q, S % 10 = q := ⟨_, rfl⟩
            rw [hq, hr2] at hst2
            have hqi : (S : Int) / 10 = (q : Int) := by omega
            have hri : (S : Int) % 10 = (r : Int) := by omega
            have hcell := hB.cell m (by rw [hQl]; exact hmm)
            have hfr := hB.frozen m
            have hset := hB.set m q
            generalize Q.getD m 0 = o at *
            replace hSS := Lib.hid hSS
            replace hq := Lib.hid hq
            replace hr2 := Lib.hid hr2
            replace hxx := Lib.hid hxx
            clear hS hB
            go_wp2
            go_roundg m
            case measure => omega
            case rel => exact ⟨r, _, by go_num, by rw [hri], by omega, hset, hbi.setCell (Nat.le_refl _) _, hst2⟩
      · obtain ⟨Ao, co, rfl⟩ := own_shape hown
        go_wp2
        generalize Value.slice Ao 0 co = u3 at *
        clear hmk
        go_loopg [4, 6] zs.length (fun k lv iv wi => ∃ (left : Nat) (Q : List Nat), iv = .int .i64 k ∧ lv = .int .u64 left ∧ k ≤ zs.length ∧ BlkU wi wo.heap.size 39 Q ∧ Below wo.heap.size wo wi ∧ ShortRel 4294967296 zs Q 10 k left)
        case atStart => exact ⟨0, _, rfl, rfl, Nat.le_refl _, BlkU.made wo 39 _, (Below.refl _ _).alloc (Nat.le_refl _) _, .start (by omega) zs (by omega)⟩
        case round =>
          obtain ⟨left, Q, rfl, rfl, hgz, hB, hbi, hS⟩ := hrel
          have hzi := hbi.size
          have hleft := hS.rest
          have hQl := hS.len
          by_cases h0 : gk = 0
          · subst h0
            have hv := hS.val
            rw [List.drop_zero, List.drop_zero, hz.val] at hv
            have hNl : N % 10 = left := by omega
            have hNq : vl 4294967296 Q = N / 10 := by omega
            rw [hNl] at hst
            obtain ⟨T, hT⟩ : ∃ T, 48 + left = T := ⟨_, rfl⟩
            rw [hT] at hst
            have hTi : (48 : Int) + (left : Int) = (T : Int) := by omega
            have hTb : T < 58 := by omega
            have hTc : (T : Int) = ((UInt8.ofNat T).toNat : Int) := by rw [UInt8.toNat_ofNat']; omega
            have hown2 := own_below hown hbi
            have hbwi := hbw.trans (hbi.mono hzw)
            have hfar : ∀ j, u3.ownBlock = some j → j < wo.heap.size := fun j hj => (hown.lt j hj).2
            replace hTc := Lib.hid hTc
            replace hT := Lib.hid hT
            replace hNl := Lib.hid hNl
            have hQd := hS.dig
            clear hS hv hown
            go_wp2_with (at_builtin; refine wpList_append_own _ rfl _ _ 84 rfl w.heap.size 5 i0 (.int .u8 0) 1 1 under_bytes hi hi0 hi1 hi2 rfl (by decide) u3 0 (lB L) rfl (hown2.alloc _) ⟨wr.heap.size, 0, none⟩ 1 1 [.int .u8 T] rfl rfl (one_cell wr 5 _) (fun u hu => by simp at hu; subst hu; rfl) (by unfold maxLen; omega) (by omega) (by simp; omega) ?_)
            intro v' w1 hown' hgr _
            rw [hTc.out, lB_snoc] at hown'
            have hb2 := (hbwi.alloc (Nat.le_trans hzw hzi) (.cells #[.int .u8 (T : Int)] 5)).grown hgr (by simp; omega) (fun j hj => (hown2.lt j hj).1)
            have hlt := hB.lt
            have hB2 : BlkU w1 wo.heap.size 39 Q := (hB.alloc (.cells #[.int .u8 (T : Int)] 5)).same (hgr.block _ (by simp; omega) (fun e => by have := hfar _ e.symm; omega))
            have htr := trim_blk_same (k := k1) hB2 hQl (by omega) hQd hNq hQk.out
            replace htr := Lib.hid htr
            clear hown2 hgr hB hB2 hNq hQd
            go_wp2_with fail
            refine htr.out.mono ?_
            rintro e w2 ⟨u, rfl, hu, rfl⟩
            go_wp2
            go_roundg (2 * (N / 10))
            case measure => exact hdec.out
            case rel => exact ⟨0 + 1, _, _, by simp, hu, hown', by omega, hb2, hst⟩
          · exfalso; omega
end Go.Proofs.YtniffclplmgcfaaGreatDoor
