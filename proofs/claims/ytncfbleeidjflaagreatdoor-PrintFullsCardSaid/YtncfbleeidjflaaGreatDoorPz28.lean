/- The document's half words, eighth part: numerals and what they are worth. Conditions: a number's half words are counted. -/
/- The document's half words, last part: half words as words. Conditions: a number's half words are counted. -/
/- Bytes put behind bytes, inside a statement that draws its order; what Scan tells, as one. Conditions: the length's reach. -/
/- The document's Scan, third part: byte by byte. Conditions: a text's reach. -/
/- What a text's digits are, as the code reckons them; what stands behind an e, walked. Conditions: the variables that the library reads. -/
import Derived.Test.YtncfbleeidjflaaGreatDoorPz27
import Derived.Test.YtncfbleeidjflaaGreatDoorPz05
import Derived.Test.YtncfbleeidjflaaGreatDoorPz25
import Derived.Test.YtncfbleeidjflaaGreatDoorPz19
import Derived.Test.YtncfbleeidjflaaGreatDoorPz04
import Derived.Deep.RegionLaw
import Derived.Deep.Upon
import Derived.Test.YtncfbleeidjflaaGreatDoorPz23
import Derived.Test.YtncfbleeidjflaaGreatDoorPz12
import Derived.Lib.AtoiAllCases
namespace Go.Proofs.YtncfbleeidjflaaGreatDoor
open Go.RowKit Go.Cal
theorem under_bytes : Tryz.prog.underlying 66 = some (.slice 5) := by kernel_rfl
theorem under_byte : Tryz.prog.underlying 5 = some (.int .u8) := by kernel_rfl
theorem under_str : Tryz.prog.underlying 9 = some .string := by kernel_rfl
theorem info_u8 : (Tryz.prog.info? 5).map (fun i => (i.zero, i.size, i.bytes)) = some (some (.int .u8 0), 1, 1) := by kernel_rfl
theorem own_shape {w : World} {base n size : Nat} {t : TypeId} {v : Value} {xs : List Value} (h : w.ownsRow base t size v n xs) : ∃ A cap, v = .slice A n cap := by
  obtain ⟨_, ⟨rfl, rfl⟩ | ⟨g, cap, cur, rfl, _⟩⟩ := h
  · exact ⟨_, _, rfl⟩
  · exact ⟨_, _, rfl⟩
theorem nrmH_pos {zs : List Nat} {N : Nat} (h : NrmH zs N) : 0 < zs.length ↔ 0 < N := by
  constructor
  · intro h0
    have h1 := vl_pos (b := 4294967296) h.top (by intro e; subst e; simp at h0)
    rw [h.val] at h1
    have := Nat.pow_pos (n := zs.length - 1) (show 0 < 4294967296 by omega)
    omega
  · intro h0
    rcases Nat.eq_zero_or_pos zs.length with h1 | h1
    · have := h.val
      rw [List.eq_nil_of_length_eq_zero h1] at this
      simp [vl] at this; omega
    · exact h1
set_option maxRecDepth 100000 in
set_option maxHeartbeats 4000000 in
theorem digits_any {v1 : Value} {k1 X : Nat} (w : World) (h1 : IsH w v1 k1 X) (b1 : k1 ≤ 32768) :
    Calls Tryz.prog 76 #[v1] w fun e w' => e = .returned (.string ⟨(Lib.decDigits X).toArray⟩) ∧ Below w.heap.size w w' := by
  have hX : X < 2 ^ (32 * k1) := by rw [Nat.pow_mul]; exact h1.lt
  obtain ⟨i0, hi, hi0, hi1, hi2⟩ := info_parts info_u8
  have hb0 : Below w.heap.size w (w.alloc (.cells #[] 5)) := (Below.refl _ _).alloc (Nat.le_refl _) _
  have h1' : pH v1 k1 X (w.alloc (.cells #[] 5)) := h1.below hb0
  replace hX := Lib.hid hX
  clear h1
  go_enter Tryz.func76, Tryz.ntmps76
  go_wp2
  go_loopg [0, 3] (2 * X + 1) (fun k av ov wr => ∃ (n N : Nat) (L : List UInt8), k = 2 * N + (if n = 0 then 1 else 0) ∧ pH av k1 N wr ∧ wr.ownsRow w.heap.size 5 1 ov n (lB L) ∧ n ≤ 32 * k1 + 1 ∧ Below w.heap.size w wr ∧ DigR X n N L)
  case atStart => exact ⟨0, X, [], by simp, h1', World.ownsRow_lit w #[] 0 (Nat.le_refl _) (by unfold maxLen; omega) rfl, by omega, hb0, .start X⟩
  case round =>
    clear h1' hb0
    obtain ⟨n, N, L, hgk, ⟨A, c, zs, rfl, hr, hc, hm, hl, hz⟩, hown, hn, hbw, hR⟩ := hrel
    have hzw := hbw.size
    have hzp := nrmH_pos hz
    have hlen := hR.len
    obtain ⟨g1, rfl⟩ : ∃ g, g = gk := ⟨_, rfl⟩
    by_cases hend : N = 0 ∧ 0 < n
    · obtain ⟨rfl, hn0⟩ := hend
      have hz0 : zs.length = 0 := by omega
      obtain rfl := List.eq_nil_of_length_eq_zero hz0
      have hdone := hR.done hn0
      obtain ⟨g, cap, rfl, hg, hgs, hnc, hcm, hB⟩ := BlkB.of_own hown hlen.symm hn0
      have hne : ((n : Int) == 0) = false := by simp; omega
      obtain ⟨h, hh⟩ : ∃ h, n / 2 = h := ⟨_, rfl⟩
      have hhi : (n : Int) / 2 = (h : Int) := by omega
      have hn9 : n ≤ 1048577 := by omega
      replace hgk := Lib.hid hgk
      replace hlen := Lib.hid hlen
      replace hdone := Lib.hid hdone
      replace hh := Lib.hid hh
      clear hR hown hz hzp hr hz0
      go_wp2
      go_loopg [8] h (fun k iv wr => ∃ (i : Nat) (M : List UInt8), iv = .int .i64 i ∧ i + k = h ∧ BlkB wr g 5 M ∧ Below w.heap.size w wr ∧ TurnR L M i)
      case atStart => exact ⟨0, L, rfl, by omega, hB, hbw, .start L⟩
      case round =>
        clear hB hbw hgs hzw
        obtain ⟨i, M, rfl, hik, hB, hbw, hT⟩ := hrel
        have hh' := hh.out
        have hlen' := hlen.out
        have hMl := hT.len
        by_cases h0 : gk = 0
        · subst h0
          have hie : i = h := by omega
          have hMe := hT.done (by omega)
          have hsz : (⟨M.toArray⟩ : ByteArray).size = n := by show M.toArray.size = n; simp [hMl, hlen']
          have hcv := Lib.run_convert_whole (P := Tryz.prog) wr 66 5 9 under_bytes under_byte under_str g 0 ⟨M.toArray⟩ hB.bytes cap
          rw [hsz] at hcv
          have hge : ¬ (i : Int) < (h : Int) := by omega
          replace hMe := Lib.hid hMe
          replace hie := Lib.hid hie
          clear hT hsz hB hh' hlen' hMl hik
          go_wp2
          go_ret
          exact ⟨by rw [hdone.out, ← hMe.out]; rfl, hbw⟩
        · have hih : (i : Int) < (h : Int) := by omega
          obtain ⟨j, hj⟩ : ∃ j, L.length - 1 - i = j := ⟨_, rfl⟩
          have hji : (n : Int) - 1 - (i : Int) = (j : Int) := by omega
          have hst := hT.step (by omega)
          rw [hj] at hst
          have hlt : i < j := by omega
          have hjn : j < n := by omega
          have hin : (i : Int) < (n : Int) := by omega
          have hjn' : (j : Int) < (n : Int) := by omega
          obtain ⟨bi, hbi⟩ : ∃ b, M.getD i 0 = b := ⟨_, rfl⟩
          obtain ⟨bj, hbj⟩ : ∃ b, M.getD j 0 = b := ⟨_, rfl⟩
          have hci := hB.cell i (by omega)
          have hcj := hB.cell j (by omega)
          rw [hbi] at hci hst
          rw [hbj] at hcj hst
          have hfi := hB.frozen i
          have hB1 := hB.set i bj
          have hcj1 := hB1.cell j (by rw [List.length_set]; omega)
          rw [getB_set_ne (by omega), hbj] at hcj1
          have hfj := hB1.frozen j
          have hB2 := hB1.set j bi
          have hbw2 := (hbw.setCell (p := ⟨g, i, none⟩) hg (.int .u8 (bj.toNat : Int))).setCell (p := ⟨g, j, none⟩) hg (.int .u8 (bi.toNat : Int))
          replace hbi := Lib.hid hbi
          replace hbj := Lib.hid hbj
          replace hj := Lib.hid hj
          clear hT hB hB1 hh' hlen' hMl
          go_wp2
          go_roundg (gk - 1)
          case measure => omega
          case rel => exact ⟨i + 1, _, by go_num, by omega, hB2, hbw2, hst⟩
    · have hcond : 0 < zs.length ∨ (¬ 0 < zs.length ∧ n = 0) := by omega
      have hNn : 0 < N ∨ n = 0 := by omega
      have hn2 : n ≤ 32 * k1 := by
        rcases hNn with h | h
        · exact Nat.le_of_lt (hR.few h hX.out)
        · omega
      have hst := hR.step hNn
      have hmk := run_makeU (P := Tryz.prog) 32 22 under_u64s info_u64 zs.length (by omega)
      have hQk : N / 10 < 4294967296 ^ k1 := by
        have h1 := hz.lt
        have h2 : 4294967296 ^ zs.length ≤ 4294967296 ^ k1 := Nat.pow_le_pow_right (by omega) hl
        have h3 := Nat.div_le_self N 10
        omega
      have hdec : 2 * (N / 10) < g1 := by rw [hgk]; split <;> omega
      replace hgk := Lib.hid hgk
      replace hlen := Lib.hid hlen
      replace hQk := Lib.hid hQk
      replace hdec := Lib.hid hdec
      clear hR hend hzp hNn
      obtain ⟨wo, rfl⟩ : ∃ w0, w0 = wr := ⟨_, rfl⟩
      rcases hcond with hcd | ⟨hcd, rfl⟩
      · go_wp2
        clear hmk
        go_loopg [4, 6] zs.length (fun k lv iv wi => ∃ (left : Nat) (Q : List Nat), iv = .int .i64 k ∧ lv = .int .u64 left ∧ k ≤ zs.length ∧ BlkU wi wo.heap.size 22 Q ∧ Below wo.heap.size wo wi ∧ ShortRel 4294967296 zs Q 10 k left)
        case atStart => exact ⟨0, _, rfl, rfl, Nat.le_refl _, BlkU.made wo 22 _, (Below.refl _ _).alloc (Nat.le_refl _) _, .start (by omega) zs (by omega)⟩
        case round =>
          obtain ⟨left, Q, rfl, rfl, hgz, hB, hbi, hS⟩ := hrel
          have hzi := hbi.size
          have hleft := hS.rest
          have hQl := hS.len
          by_cases h0 : gk = 0
          · subst h0
            have hv := hS.val
            rw [List.drop_zero, List.drop_zero, hz.val] at hv
            have hNl : N % 10 = left := by omega
            have hNq : vl 4294967296 Q = N / 10 := by omega
            rw [hNl] at hst
            obtain ⟨T, hT⟩ : ∃ T, 48 + left = T := ⟨_, rfl⟩
            rw [hT] at hst
            have hTi : (48 : Int) + (left : Int) = (T : Int) := by omega
            have hTb : T < 58 := by omega
            have hTc : (T : Int) = ((UInt8.ofNat T).toNat : Int) := by rw [UInt8.toNat_ofNat']; omega
            have hown2 := own_below hown hbi
            have hbwi := hbw.trans (hbi.mono hzw)
            have hfar : ∀ j, u3.ownBlock = some j → j < wo.heap.size := fun j hj => (hown.lt j hj).2
            replace hTc := Lib.hid hTc
            replace hT := Lib.hid hT
            replace hNl := Lib.hid hNl
            have hQd := hS.dig
            clear hS hv hown
            go_wp2_with (at_builtin; refine wpList_append_own _ rfl _ _ 66 rfl w.heap.size 5 i0 (.int .u8 0) 1 1 under_bytes hi hi0 hi1 hi2 rfl (by decide) u3 n (lB L) rfl (hown2.alloc _) ⟨wr.heap.size, 0, none⟩ 1 1 [.int .u8 T] rfl rfl (one_cell wr 5 _) (fun u hu => by simp at hu; subst hu; rfl) (by unfold maxLen; omega) (by omega) (by simp; omega) ?_)
            intro v' w1 hown' hgr _
            rw [hTc.out, lB_snoc] at hown'
            have hb2 := (hbwi.alloc (Nat.le_trans hzw hzi) (.cells #[.int .u8 (T : Int)] 5)).grown hgr (by simp; omega) (fun j hj => (hown2.lt j hj).1)
            have hlt := hB.lt
            have hB2 : BlkU w1 wo.heap.size 22 Q := (hB.alloc (.cells #[.int .u8 (T : Int)] 5)).same (hgr.block _ (by simp; omega) (fun e => by have := hfar _ e.symm; omega))
            have htr := trim_blk_same (k := k1) hB2 hQl (by omega) hQd hNq hQk.out
            replace htr := Lib.hid htr
            clear hown2 hgr hB hB2 hNq hQd
            go_wp2_with fail
            refine htr.out.mono ?_
            rintro e w2 ⟨u, rfl, hu, rfl⟩
            go_wp2
            go_roundg (2 * (N / 10))
            case measure => exact hdec.out
            case rel => exact ⟨n + 1, _, _, by simp, hu, hown', by omega, hb2, hst⟩
          · obtain ⟨m, rfl⟩ : ∃ m, gk = m + 1 := ⟨gk - 1, by omega⟩
            have hmm : m < zs.length := by omega
            have hmi : (m : Int) < (zs.length : Int) := by omega
            obtain ⟨b, off, rfl, hb, hcx⟩ := (hr.below hbi).at hmm
            have hx0 := hcx m hmm
            clear hcx
            obtain ⟨x, hxx⟩ : ∃ x, zs.getD m 0 = x := ⟨_, rfl⟩
            have hx1 : x < 4294967296 := hxx ▸ dig_getD (by omega) hz.dig m
            rw [hxx] at hx0
            obtain ⟨S, hSS⟩ : ∃ S, left * 4294967296 + x = S := ⟨_, rfl⟩
            have hSi : (left : Int) * 4294967296 + (x : Int) = (S : Int) := by omega
            have hSb : S < 42949672960 := by omega
            have hst2 := hS.step (q := S / 10) (r := S % 10) hmm hxx (by omega) (Nat.mod_lt _ (by omega)) (by rw [hSS]; omega)
            obtain ⟨q, hq⟩ : ∃ q, S / 10 = q := ⟨_, rfl⟩
            obtain ⟨r, hr2⟩ : ∃ q, S % 10 = q := ⟨_, rfl⟩
            rw [hq, hr2] at hst2
            have hqi : (S : Int) / 10 = (q : Int) := by omega
            have hri : (S : Int) % 10 = (r : Int) := by omega
            have hcell := hB.cell m (by rw [hQl]; exact hmm)
            have hfr := hB.frozen m
            have hset := hB.set m q
            generalize Q.getD m 0 = o at *
            replace hSS := Lib.hid hSS
            replace hq := Lib.hid hq
            replace hr2 := Lib.hid hr2
            replace hxx := Lib.hid hxx
            clear hS hB
            go_wp2
            go_roundg m
            case measure => omega
            case rel => exact ⟨r, _, by go_num, by rw [hri], by omega, hset, hbi.setCell (Nat.le_refl _) _, hst2⟩
      · obtain ⟨Ao, co, rfl⟩ := own_shape hown
        go_wp2
        generalize Value.slice Ao 0 co = u3 at *
        clear hmk
        go_loopg [4, 6] zs.length (fun k lv iv wi => ∃ (left : Nat) (Q : List Nat), iv = .int .i64 k ∧ lv = .int .u64 left ∧ k ≤ zs.length ∧ BlkU wi wo.heap.size 22 Q ∧ Below wo.heap.size wo wi ∧ ShortRel 4294967296 zs Q 10 k left)
        case atStart => exact ⟨0, _, rfl, rfl, Nat.le_refl _, BlkU.made wo 22 _, (Below.refl _ _).alloc (Nat.le_refl _) _, .start (by omega) zs (by omega)⟩
        case round =>
          obtain ⟨left, Q, rfl, rfl, hgz, hB, hbi, hS⟩ := hrel
          have hzi := hbi.size
          have hleft := hS.rest
          have hQl := hS.len
          by_cases h0 : gk = 0
          · subst h0
            have hv := hS.val
            rw [List.drop_zero, List.drop_zero, hz.val] at hv
            have hNl : N % 10 = left := by omega
            have hNq : vl 4294967296 Q = N / 10 := by omega
            rw [hNl] at hst
            obtain ⟨T, hT⟩ : ∃ T, 48 + left = T := ⟨_, rfl⟩
            rw [hT] at hst
            have hTi : (48 : Int) + (left : Int) = (T : Int) := by omega
            have hTb : T < 58 := by omega
            have hTc : (T : Int) = ((UInt8.ofNat T).toNat : Int) := by rw [UInt8.toNat_ofNat']; omega
            have hown2 := own_below hown hbi
            have hbwi := hbw.trans (hbi.mono hzw)
            have hfar : ∀ j, u3.ownBlock = some j → j < wo.heap.size := fun j hj => (hown.lt j hj).2
            replace hTc := Lib.hid hTc
            replace hT := Lib.hid hT
            replace hNl := Lib.hid hNl
            have hQd := hS.dig
            clear hS hv hown
            go_wp2_with (at_builtin; refine wpList_append_own _ rfl _ _ 66 rfl w.heap.size 5 i0 (.int .u8 0) 1 1 under_bytes hi hi0 hi1 hi2 rfl (by decide) u3 0 (lB L) rfl (hown2.alloc _) ⟨wr.heap.size, 0, none⟩ 1 1 [.int .u8 T] rfl rfl (one_cell wr 5 _) (fun u hu => by simp at hu; subst hu; rfl) (by unfold maxLen; omega) (by omega) (by simp; omega) ?_)
            intro v' w1 hown' hgr _
            rw [hTc.out, lB_snoc] at hown'
            have hb2 := (hbwi.alloc (Nat.le_trans hzw hzi) (.cells #[.int .u8 (T : Int)] 5)).grown hgr (by simp; omega) (fun j hj => (hown2.lt j hj).1)
            have hlt := hB.lt
            have hB2 : BlkU w1 wo.heap.size 22 Q := (hB.alloc (.cells #[.int .u8 (T : Int)] 5)).same (hgr.block _ (by simp; omega) (fun e => by have := hfar _ e.symm; omega))
            have htr := trim_blk_same (k := k1) hB2 hQl (by omega) hQd hNq hQk.out
            replace htr := Lib.hid htr
            clear hown2 hgr hB hB2 hNq hQd
            go_wp2_with fail
            refine htr.out.mono ?_
            rintro e w2 ⟨u, rfl, hu, rfl⟩
            go_wp2
            go_roundg (2 * (N / 10))
            case measure => exact hdec.out
            case rel => exact ⟨0 + 1, _, _, by simp, hu, hown', by omega, hb2, hst⟩
          · exfalso; omega
end Go.Proofs.YtncfbleeidjflaaGreatDoor
namespace Go.Cal
/-- Half words as words. -/
def wds (H : Nat) : List Nat → List Nat
  | [] => []
  | [x] => [x]
  | x :: y :: l => (x + y * H) :: wds H l
theorem wds_val (H : Nat) : ∀ l, vl (H * H) (wds H l) = vl H l
  | [] => rfl
  | [x] => by simp [wds, vl]
  | x :: y :: l => by
    have ih := wds_val H l
    simp only [wds, vl]
    rw [ih]
    simp only [Nat.mul_add, Nat.mul_assoc, Nat.mul_comm y H, Nat.add_assoc]
theorem wds_len (H : Nat) : ∀ l, (wds H l).length ≤ l.length
  | [] => Nat.le_refl _
  | [x] => Nat.le_refl _
  | x :: y :: l => by have := wds_len H l; simp [wds]; omega
theorem wds_dig {H : Nat} (hH : 0 < H) : ∀ {l : List Nat}, Dig H l → Dig (H * H) (wds H l)
  | [], _ => fun x hx => by simp [wds] at hx
  | [x], h => fun z hz => by
    have hx := h x (by simp)
    simp [wds] at hz
    subst hz
    exact Nat.lt_of_lt_of_le hx (Nat.le_mul_of_pos_right _ hH)
  | x :: y :: l, h => fun z hz => by
    have hx := h x (by simp)
    have hy := h y (by simp)
    simp only [wds, List.mem_cons] at hz
    rcases hz with rfl | hz
    · have : (y + 1) * H ≤ H * H := Nat.mul_le_mul_right _ hy
      rw [Nat.add_mul, Nat.one_mul] at this
      omega
    · exact wds_dig hH (fun q hq => h q (by simp [hq])) z hz
theorem wds_even (H : Nat) : ∀ (j : Nat) (l m : List Nat), l.length = 2 * j → wds H (l ++ m) = wds H l ++ wds H m
  | 0, l, m, h => by
    have : l = [] := List.length_eq_zero_iff.1 (by omega)
    subst this; rfl
  | j + 1, x :: y :: l, m, h => by
    have ih := wds_even H j l m (by simp at h; omega)
    simp only [List.cons_append, wds, ih]
theorem wds_two (H : Nat) (l : List Nat) (j : Nat) (h : 2 * j + 1 < l.length) : wds H (l.take (2 * j)) ++ [l.getD (2 * j) 0 + l.getD (2 * j + 1) 0 * H] = wds H (l.take (2 * (j + 1))) := by
  have e : l.take (2 * (j + 1)) = l.take (2 * j) ++ [l.getD (2 * j) 0, l.getD (2 * j + 1) 0] := by
    have h1 : 2 * (j + 1) = 2 * j + 1 + 1 := by omega
    rw [h1, List.take_succ_eq_append_getElem (by omega), List.take_succ_eq_append_getElem (by omega), List.append_assoc]
    simp [List.getD_eq_getElem?_getD, List.getElem?_eq_getElem (show 2 * j < l.length by omega), List.getElem?_eq_getElem h]
  rw [e, wds_even H j _ _ (by rw [List.length_take]; omega)]
  rfl
theorem wds_one (H : Nat) (l : List Nat) (j : Nat) (h : 2 * j + 1 = l.length) : wds H (l.take (2 * j)) ++ [l.getD (2 * j) 0] = wds H (l.take (2 * (j + 1))) := by
  have e : l.take (2 * (j + 1)) = l.take (2 * j) ++ [l.getD (2 * j) 0] := by
    rw [List.take_of_length_le (by omega)]
    have h1 : l = l.take (2 * j + 1) := (List.take_of_length_le (by omega)).symm
    conv => lhs; rw [h1]
    rw [List.take_succ_eq_append_getElem (by omega)]
    simp [List.getD_eq_getElem?_getD, List.getElem?_eq_getElem (show 2 * j < l.length by omega)]
  rw [e, wds_even H j _ _ (by rw [List.length_take]; omega)]
  rfl
end Go.Cal
namespace Go.Proofs.YtncfbleeidjflaaGreatDoor
open Go.RowKit Go.Cal
/-- What Words tells: a number in words, in new memory. -/
def TellsW (w : World) (N : Nat) (e : Ending) (w' : World) : Prop :=
  ∃ (A : Option Addr) (c : Nat) (zs : List Nat), e = .returned (.slice A zs.length c) ∧ RdU w' w'.heap.size A zs ∧ zs.length ≤ c ∧ c ≤ maxLen ∧ Nrm zs N ∧ (zs = [] ∨ ∃ b off, A = some ⟨b, off, none⟩ ∧ w.heap.size ≤ b) ∧ Below w.heap.size w w'
theorem trim_words {w wr : World} {n N : Nat} {v : Value} {xs : List Nat} (hown : wr.ownsRow w.heap.size 22 1 v n (lU xs)) (hn : n = xs.length) (hb : Below w.heap.size w wr) (hl : xs.length ≤ 1099511627776) (hd : Dig 18446744073709551616 xs) (hv : vl 18446744073709551616 xs = N) :
    Calls Tryz.prog 124 #[v] wr (TellsW w N) := by
  obtain ⟨A, c, rfl, hr, h1, h2, h3, h4⟩ := rd_of_own hown hn
  refine (rtrim_any c wr hr h1 hl h3).mono ?_
  rintro e w1 ⟨⟨zs, rfl, ⟨m, rfl⟩, ht, hv'⟩, rfl⟩
  have hz : Nrm (xs.take m) N := ⟨dig_take hd m, ht, (hv' _).trans hv⟩
  refine ⟨A, c, xs.take m, rfl, hr.take m, by rw [List.length_take]; omega, h2, hz, ?_, hb⟩
  rcases (hr.take m).place with h | ⟨b, off, e, _⟩
  · exact .inl h
  · exact .inr ⟨b, off, e, h4 _ e⟩
set_option maxRecDepth 100000 in
set_option maxHeartbeats 2000000 in
theorem words_any {v1 : Value} {k X : Nat} (w : World) (h1 : IsH w v1 k X) (b1 : k ≤ 1048576) : Calls Tryz.prog 53 #[v1] w (TellsW w X) := by
  obtain ⟨A, c, xs, rfl, hr, hc, hm, hl, hx⟩ := h1
  obtain ⟨i0, hi, hi0, hi1, hi2⟩ := info_parts info_u64
  have hXv := wds_val 4294967296 xs
  have hXd := wds_dig (H := 4294967296) (by omega) hx.dig
  have hXl := wds_len 4294967296 xs
  rw [hx.val] at hXv
  replace hXv : vl 18446744073709551616 (wds 4294967296 xs) = X := hXv
  replace hXd : Dig 18446744073709551616 (wds 4294967296 xs) := hXd
  replace hXv := Lib.hid hXv
  replace hXd := Lib.hid hXd
  go_enter Tryz.func53, Tryz.ntmps53
  go_wp2
  go_loopg [3, 4, 5] (xs.length + 1) (fun g ov iv _ wr => ∃ i j : Nat, iv = .int .i64 i ∧ i = 2 * j ∧ g = xs.length + 1 - i ∧ i ≤ xs.length + 1 ∧ wr.ownsRow w.heap.size 22 1 ov j (lU (wds 4294967296 (xs.take i))) ∧ Below w.heap.size w wr)
  case atStart => exact ⟨0, 0, rfl, rfl, by omega, by omega, by rw [List.take_zero]; exact World.ownsRow_lit w #[] 0 (Nat.le_refl _) (by unfold maxLen; omega) rfl, (Below.refl _ _).alloc (Nat.le_refl _) _⟩
  case round =>
    obtain ⟨i, j, rfl, hij, hgk, hil, hown, hbw⟩ := hrel
    have hzw := hbw.size
    by_cases hend : xs.length ≤ i
    · rw [List.take_of_length_le hend] at hown
      have hjl : j = (wds 4294967296 xs).length := by
        have hlen := hown.1
        rw [lU_len] at hlen
        omega
      have ht := trim_words hown hjl hbw (by omega) hXd.out hXv.out
      have n1 : ¬ (i : Int) < (xs.length : Int) := by omega
      replace ht := Lib.hid ht
      clear hown
      go_wp2_with fail
      refine ht.out.mono ?_
      rintro e w1 ⟨A', c', zs, rfl, g1, g2, g3, g4, g5, g6⟩
      go_wp2
      go_ret
      exact ⟨A', c', zs, rfl, g1, g2, g3, g4, g5, g6⟩
    · have hix : i < xs.length := by omega
      have hjb : j ≤ 2000000 := by omega
      have hii : (i : Int) < (xs.length : Int) := by omega
      obtain ⟨b, off, rfl, hb, hcx⟩ := (hr.below hbw).at hix
      have hx0 := hcx i hix
      obtain ⟨x, hxe⟩ : ∃ x, xs.getD i 0 = x := ⟨_, rfl⟩
      have bx : x < 4294967296 := hxe ▸ dig_getD (by omega) hx.dig i
      rw [hxe] at hx0
      by_cases hi1x : i + 1 < xs.length
      · have hii1 : (i : Int) + 1 < (xs.length : Int) := by omega
        have hy0 := hcx (i + 1) hi1x
        obtain ⟨y, hye⟩ : ∃ x, xs.getD (i + 1) 0 = x := ⟨_, rfl⟩
        have by' : y < 4294967296 := hye ▸ dig_getD (by omega) hx.dig (i + 1)
        rw [hye] at hy0
        have hts := wds_two 4294967296 xs j (by omega)
        rw [← hij, hxe, hye, show 2 * (j + 1) = i + 2 by omega] at hts
        obtain ⟨z, hz⟩ : ∃ z, x + y * 4294967296 = z := ⟨_, rfl⟩
        have hzi : (x : Int) + (y : Int) * 4294967296 = (z : Int) := by omega
        have hzb : z < 18446744073709551616 := by omega
        rw [hz] at hts
        replace hts := Lib.hid hts
        replace hxe := Lib.hid hxe
        replace hye := Lib.hid hye
        replace hz := Lib.hid hz
        replace hij := Lib.hid hij
        clear hcx hr
        go_wp2_with (at_builtin; refine wpList_append_own _ rfl _ _ 32 rfl w.heap.size 22 i0 (.int .u64 0) 1 8 under_u64s hi hi0 hi1 hi2 rfl (by decide) u3 j (lU (wds 4294967296 (xs.take i))) rfl (hown.alloc _) ⟨wr.heap.size, 0, none⟩ 1 1 [.int .u64 z] rfl rfl (one_cell wr 22 _) (fun u hu => by simp at hu; subst hu; rfl) (by unfold maxLen; omega) (by omega) (by simp; omega) ?_)
        intro v' w1 hown' hgr _
        rw [lU_snoc, hts.out] at hown'
        have hb2 := (hbw.alloc hzw (.cells #[.int .u64 (z : Int)] 22)).grown hgr (by simp; omega) (fun j hj => (hown.lt j hj).1)
        clear hown hgr
        go_wp2
        go_roundg (gk - 2)
        case measure => omega
        case rel => exact ⟨i + 2, j + 1, by go_num, by have := hij.out; omega, by omega, by omega, hown', hb2⟩
      · have hii1 : ¬ (i : Int) + 1 < (xs.length : Int) := by omega
        have hts := wds_one 4294967296 xs j (by omega)
        rw [← hij, hxe, show 2 * (j + 1) = i + 2 by omega] at hts
        replace hts := Lib.hid hts
        replace hxe := Lib.hid hxe
        replace hij := Lib.hid hij
        clear hcx hr
        go_wp2_with (at_builtin; refine wpList_append_own _ rfl _ _ 32 rfl w.heap.size 22 i0 (.int .u64 0) 1 8 under_u64s hi hi0 hi1 hi2 rfl (by decide) u3 j (lU (wds 4294967296 (xs.take i))) rfl (hown.alloc _) ⟨wr.heap.size, 0, none⟩ 1 1 [.int .u64 x] rfl rfl (one_cell wr 22 _) (fun u hu => by simp at hu; subst hu; rfl) (by unfold maxLen; omega) (by omega) (by simp; omega) ?_)
        intro v' w1 hown' hgr _
        rw [lU_snoc, hts.out] at hown'
        have hb2 := (hbw.alloc hzw (.cells #[.int .u64 (x : Int)] 22)).grown hgr (by simp; omega) (fun j hj => (hown.lt j hj).1)
        clear hown hgr
        go_wp2
        go_roundg (gk - 2)
        case measure => omega
        case rel => exact ⟨i + 2, j + 1, by go_num, by have := hij.out; omega, by omega, by omega, hown', hb2⟩
end Go.Proofs.YtncfbleeidjflaaGreatDoor
namespace Go.Proofs.YtncfbleeidjflaaGreatDoor
open Go.RowKit Go.Cal
/-- An empty row. -/
theorem OwnB.none {w : World} {base g : Nat} (hb : base ≤ g) (hg : g < w.heap.size) : OwnB w base g 0 [] :=
  ⟨hb, hg, Nat.le_refl _, by unfold maxLen; omega, fun i hi => by simp at hi, fun i hi => by simp at hi, fun i hi => by simp at hi⟩
theorem pBlk.drew {s : Nat} {cs : Array Value} {t : TypeId} {w : World} (h : pBlk s cs t w) : pBlk s cs t w.drew := h
theorem pBlk.alloc {s : Nat} {cs : Array Value} {t : TypeId} {w : World} (h : pBlk s cs t w) (o : Obj) : pBlk s cs t (w.alloc o) := (pBlk_st s cs t) _ _ h ((Below.refl _ _).alloc (Nat.le_refl _) _)
theorem pBlk.ne {s g g' : Nat} {cs : Array Value} {t : TypeId} {w : World} (h : pBlk s cs t w) (hg : g' = g ∨ g' = w.heap.size) (hne : s ≠ g) : s ≠ g' := by
  have := h.lt
  rcases hg with e | e
  · rw [e]; exact hne
  · rw [e]; omega
theorem pBlk.only {s g : Nat} {cs : Array Value} {t : TypeId} {w w' : World} (h : pBlk s cs t w) (ho : ∀ j, j < w.heap.size → j ≠ g → w'.heap[j]? = w.heap[j]?) (hne : s ≠ g) : pBlk s cs t w' := (ho s h.lt hne).trans h
end Go.Proofs.YtncfbleeidjflaaGreatDoor
namespace Go.Cal
theorem nxt_25 {st : Nat} {c : UInt8} (h : nxt st c = 2 ∨ nxt st c = 5) : isDig c = true := by
  unfold nxt at h
  split at h
  · split at h
    · split at h <;> omega
    · split at h
      · omega
      · split at h
        · omega
        · split at h <;> omega
  · split at h
    · rename_i h2; exact h2.1
    · split at h
      · omega
      · split at h
        · omega
        · split at h
          · omega
          · split at h
            · rename_i h3
              rcases h3 with ⟨rfl, _⟩ | ⟨rfl, _⟩ | ⟨rfl, _⟩ | ⟨rfl, _⟩ | ⟨rfl, _⟩ | ⟨rfl, _⟩ <;> omega
            · omega
/-- What the machine keeps. -/
structure Mac.Inv (m : Mac) (k : Nat) : Prop where
  ex : m.ex ≤ CR
  bh : m.bh ≤ k
  len : m.ds.length ≤ k
  digs : ∀ c ∈ m.ds, isDig c = true
theorem Mac.Inv.step {m : Mac} {k : Nat} (h : m.Inv k) (c : UInt8) : (m.step c).Inv (k + 1) := by
  obtain ⟨h1, h2, h3, h4⟩ := h
  refine ⟨?_, ?_, ?_, ?_⟩
  · unfold Mac.step
    simp only
    split
    · exact Nat.min_le_right _ _
    · exact h1
  · unfold Mac.step
    simp only
    split <;> omega
  · unfold Mac.step
    simp only
    split
    · rw [List.length_append]; simp; omega
    · omega
  · unfold Mac.step
    simp only
    split
    · rename_i hd
      intro x hx
      rcases List.mem_append.1 hx with hx | hx
      · exact h4 x hx
      · rw [List.mem_singleton.1 hx]; exact nxt_25 hd
    · exact h4
theorem Mac.Inv.zero : mac0.Inv 0 := ⟨Nat.zero_le _, Nat.le_refl _, Nat.le_refl _, fun c hc => by cases hc⟩
/-- Where the machine stands behind i bytes of l. -/
structure At (l : List UInt8) (i : Nat) (m : Mac) : Prop where
  run : mac0.run (l.take i) = m
  live : m.st ∈ liveL
  inv : m.Inv i
  out : outA 0 l = ((outA m.st (l.drop i)).1, i + (outA m.st (l.drop i)).2)
theorem At.zero (l : List UInt8) : At l 0 mac0 := ⟨rfl, by decide, .zero, by rw [List.drop_zero, Nat.zero_add]; rfl⟩
theorem drop_getD (l : List UInt8) (i : Nat) (h : i < l.length) : l.drop i = l.getD i 0 :: l.drop (i + 1) := by
  rw [List.drop_eq_getElem_cons h, List.getD_eq_getElem?_getD, List.getElem?_eq_getElem h]; rfl
theorem take_getD (l : List UInt8) (i : Nat) (h : i < l.length) : l.take (i + 1) = l.take i ++ [l.getD i 0] := by
  rw [List.take_succ_eq_append_getElem h, List.getD_eq_getElem?_getD, List.getElem?_eq_getElem h]; rfl
theorem At.step {l : List UInt8} {i : Nat} {m : Mac} (h : At l i m) (hi : i < l.length) (h9 : nxt m.st (l.getD i 0) ≠ 99) : At l (i + 1) (m.step (l.getD i 0)) := by
  refine ⟨by rw [take_getD l i hi, run_snoc, h.run], nxt_live h.live _ h9, h.inv.step _, ?_⟩
  have ho := h.out
  rw [drop_getD l i hi, outA_go rfl h9] at ho
  rw [ho]
  show _ = ((outA (nxt m.st (l.getD i 0)) (l.drop (i + 1))).1, _)
  congr 1
  show _ = i + 1 + (outA (nxt m.st (l.getD i 0)) (l.drop (i + 1))).2
  omega
theorem At.done {l : List UInt8} {m : Mac} (h : At l l.length m) : (textS l).1 = over m.st ∧ (over m.st = false → (textS l).2 = l.length) := by
  have ho := h.out
  rw [List.drop_length, outA_nil] at ho
  obtain ⟨g1, g2⟩ := outA_text l
  refine ⟨by rw [← g1, ho], fun hf => ?_⟩
  have hf' : (outA 0 l).1 = false := by rw [ho]; exact hf
  rw [← g2 hf', ho]
  rfl
end Go.Cal
namespace Go.Proofs.YtncfbleeidjflaaGreatDoor
open Go.RowKit Go.Cal
theorem pItemN.less {b b' : Nat} {v : Value} {it : Cal.Item} {w : World} (h : pItemN b' v it w) (hb : b ≤ b') : pItemN b v it w := by
  obtain ⟨A, c, zs, e, h1, h2, h3, h4, h5, h6⟩ := h
  exact ⟨A, c, zs, e, h1, h2, h3, h4, h5, h6.imp id (fun ⟨x, off, e, hx⟩ => ⟨x, off, e, Nat.le_trans hb hx⟩)⟩
end Go.Proofs.YtncfbleeidjflaaGreatDoor
namespace Go.Proofs.YtncfbleeidjflaaGreatDoor
open Go.RowKit Go.Cal
/-- The variables that the library reads. -/
structure LyW (w : World) : Prop where
  tab : Tab10 w
  mx : ∃ m, w.cell? ⟨6, 0, none⟩ = some (.int .i64 m)
  es : ∃ tp p, w.var? Tryz.prog "strconv.ErrSyntax" = some #[.iface tp p]
  er : ∃ tp p, w.var? Tryz.prog "strconv.ErrRange" = some #[.iface tp p]
theorem LyW.below {w w' : World} (h : LyW w) (hb : Below w.heap.size w w') : LyW w' := by
  obtain ⟨m, hm⟩ := h.mx
  obtain ⟨t1, p1, h1⟩ := h.es
  obtain ⟨t2, p2, h2⟩ := h.er
  exact ⟨h.tab.below hb, ⟨m, (hb.cell (p := ⟨_, 0, none⟩) (cell_lt hm)).trans hm⟩, ⟨t1, p1, var_keep h1 hb⟩, ⟨t2, p2, var_keep h2 hb⟩⟩
end Go.Proofs.YtncfbleeidjflaaGreatDoor
