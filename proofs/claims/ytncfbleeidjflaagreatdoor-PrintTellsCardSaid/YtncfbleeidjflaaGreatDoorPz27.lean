/- The document's half words, seventh part: powers; how often one number goes into another. Conditions: a number's half words are counted. -/
/- Plain: a numeral made from its last digit on; a row turned round in place; bytes in memory. Conditions: none. -/
import Derived.Test.YtncfbleeidjflaaGreatDoorPz26
import Derived.Lib.SlBytesRow
namespace Go.Proofs.YtncfbleeidjflaaGreatDoor
open Go.RowKit Go.Cal
theorem size_alloc1 (w : World) (o : Obj) : (w.alloc o).heap.size = w.heap.size + 1 := by simp
/-- A slice of words that the text itself lays. -/
theorem isN_lit (w : World) (L : List Nat) (cs : Array Value) (k N : Nat) (hcs : cs = (lU L).toArray) (hd : Dig 18446744073709551616 L) (hk : L.length = k) (hv : vl 18446744073709551616 L = N) : IsN (w.alloc (.cells cs 22)) (.slice (some ⟨w.heap.size, 0, none⟩) k k) k N := by
  subst hk; subst hv
  exact .lit w L cs hcs hd
/-- How often, digit by digit. -/
structure OverRel (H : Nat) (n X Y : Nat) (L : List Nat) (i R : Nat) : Prop where
  len : L.length = n
  dig : Dig H L
  val : vl H L = 2 ^ i * (X / 2 ^ i / Y)
  rest : R = X / 2 ^ i % Y
theorem half_step (X m : Nat) : X / 2 ^ m = 2 * (X / 2 ^ (m + 1)) + (if X.testBit m then 1 else 0) := by
  rw [Nat.testBit_eq_decide_div_mod_eq, Nat.pow_succ, ← Nat.div_div_eq_div_mul]
  have h1 := Nat.div_add_mod (X / 2 ^ m) 2
  by_cases h : X / 2 ^ m % 2 = 1
  · simp [h]; omega
  · simp [h]; omega
theorem over_less {H n X Y : Nat} {L : List Nat} {m R b : Nat} (h : OverRel H n X Y L (m + 1) R) (hY : 0 < Y) (hb : X / 2 ^ m = 2 * (X / 2 ^ (m + 1)) + b) (hlt : 2 * R + b < Y) : OverRel H n X Y L m (2 * R + b) := by
  have hr := h.rest
  have hd := Nat.div_add_mod (X / 2 ^ (m + 1)) Y
  rw [← hr] at hd
  have hval := h.val
  generalize X / 2 ^ (m + 1) / Y = K at hd hval
  have e : X / 2 ^ m = Y * (2 * K) + (2 * R + b) := by
    rw [hb, Nat.mul_left_comm]; omega
  refine ⟨h.len, h.dig, ?_, ?_⟩
  · rw [hval, e, Nat.mul_add_div hY, Nat.div_eq_of_lt hlt]; simp only [Nat.add_zero, Nat.pow_succ, Nat.mul_assoc]
  · rw [e, Nat.mul_add_mod, Nat.mod_eq_of_lt hlt]
theorem over_more {n X Y : Nat} {L : List Nat} {m R b d : Nat} (h : OverRel 4294967296 n X Y L (m + 1) R) (hY : 0 < Y) (hb1 : b ≤ 1) (hb : X / 2 ^ m = 2 * (X / 2 ^ (m + 1)) + b) (hge : Y ≤ 2 * R + b) (hm : m / 32 < n) (hd : L.getD (m / 32) 0 = d) :
    d + 2 ^ (m % 32) < 4294967296 ∧ OverRel 4294967296 n X Y (L.set (m / 32) (d + 2 ^ (m % 32))) m (2 * R + b - Y) := by
  have hr := h.rest
  have hlt : R < Y := hr ▸ Nat.mod_lt _ hY
  have hdm := Nat.div_add_mod (X / 2 ^ (m + 1)) Y
  rw [← hr] at hdm
  generalize hK : X / 2 ^ (m + 1) / Y = K at hdm
  have hr32 := Nat.mod_lt m (show 0 < 32 by omega)
  have e : X / 2 ^ m = Y * (2 * K + 1) + (2 * R + b - Y) := by
    rw [hb, Nat.mul_add, Nat.mul_left_comm]; omega
  have hdb : d + 2 ^ (m % 32) < 4294967296 := by
    have h1 := vl_at (b := 4294967296) (by omega) h.dig (m / 32)
    rw [hd, h.val, hK] at h1
    have h2 : 2 ^ (m + 1) * K / 4294967296 ^ (m / 32) = 2 ^ (m % 32 + 1) * K := by
      rw [show 4294967296 ^ (m / 32) = 2 ^ (32 * (m / 32)) by rw [show 4294967296 = 2 ^ 32 from rfl, ← Nat.pow_mul], show m + 1 = 32 * (m / 32) + (m % 32 + 1) by omega, Nat.pow_add, Nat.mul_assoc, Nat.mul_div_cancel_left _ (Nat.two_pow_pos _)]
    rw [h2] at h1
    obtain ⟨M, hM⟩ : ∃ M, 4294967296 = 2 ^ (m % 32 + 1) * M := ⟨2 ^ (31 - m % 32), by rw [← Nat.pow_add, show m % 32 + 1 + (31 - m % 32) = 32 by omega]⟩
    rw [hM, Nat.mul_mod_mul_left] at h1
    have hM0 : 0 < M := Nat.pos_of_ne_zero (by rintro rfl; simp at hM)
    have h3 := Nat.mod_lt K hM0
    have h4 := Nat.mul_le_mul_left (2 ^ (m % 32 + 1)) (show K % M + 1 ≤ M from h3)
    rw [Nat.mul_add, h1, ← hM, Nat.mul_one, Nat.pow_succ] at h4
    have := Nat.two_pow_pos (m % 32)
    omega
  refine ⟨hdb, by rw [List.length_set]; exact h.len, dig_set h.dig _ hdb, ?_, ?_⟩
  · have hset := vl_set (b := 4294967296) L (m / 32) (d + 2 ^ (m % 32)) (by rw [h.len]; exact hm)
    rw [hd, h.val, hK, Nat.mul_add] at hset
    have hp : 4294967296 ^ (m / 32) * 2 ^ (m % 32) = 2 ^ m := by rw [show 4294967296 = 2 ^ 32 from rfl, ← Nat.pow_mul, ← Nat.pow_add]; congr 1; omega
    rw [hp] at hset
    rw [e, Nat.mul_add_div hY, Nat.div_eq_of_lt (show 2 * R + b - Y < Y by omega), Nat.add_zero, Nat.mul_add, Nat.mul_one]
    rw [Nat.pow_succ, Nat.mul_assoc] at hset
    omega
  · rw [e, Nat.mul_add_mod, Nat.mod_eq_of_lt (show 2 * R + b - Y < Y by omega)]
/-- The end of a row made whole: what Trim makes of it; the world stays. -/
theorem trim_blk_same {wr : World} {g n k N : Nat} {L : List Nat} (hB : BlkU wr g 22 L) (hn : L.length = n) (hl : n ≤ 1099511627776) (hd : Dig 4294967296 L) (hv : vl 4294967296 L = N) (hk : N < 4294967296 ^ k) :
    Calls Tryz.prog 124 #[.slice (some ⟨g, 0, none⟩) n n] wr fun e w' => ∃ v, e = .returned v ∧ pH v k N w' ∧ wr = w' := by
  subst hn
  have hr := (hB.rd 0 L.length (by omega)).more hB.lt
  simp only [List.drop_zero, List.take_length] at hr
  refine (rtrim_any L.length wr hr (Nat.le_refl _) hl (fun e => by cases e)).mono ?_
  rintro e w1 ⟨⟨zs, rfl, ⟨m, rfl⟩, ht, hv'⟩, rfl⟩
  have hz : NrmH (L.take m) N := ⟨dig_take hd m, ht, (hv' _).trans hv⟩
  exact ⟨_, rfl, ⟨_, _, L.take m, rfl, hr.take m, by rw [List.length_take]; omega, ⟨by unfold maxLen; omega, fun e => by cases e⟩, hz.length_le hk, hz⟩, rfl⟩
/-- A call tells two numbers in half words. -/
def TellsHH (w : World) (k N k' N' : Nat) (e : Ending) (w' : World) : Prop := ∃ v v', e = .returned (.tuple #[v, v']) ∧ pH v k N w' ∧ pH v' k' N' w' ∧ Below w.heap.size w w'
theorem pH.far {w : World} {v : Value} {k N g i : Nat} {u : Value} (h : pH v k N w) (hf : ∀ A n c, v = .slice A n c → ∀ a, A = some a → a.block ≠ g) : pH v k N (w.setCell ⟨g, i, none⟩ u) := by
  obtain ⟨A, c, zs, rfl, hr, h3⟩ := h
  refine ⟨A, c, zs, rfl, ⟨?_, fun b off e j hj => ?_⟩, h3⟩
  · rcases hr.place with h | ⟨b, off, e, hb⟩
    · exact .inl h
    · exact .inr ⟨b, off, e, by simpa [World.setCell] using hb⟩
  · rw [World.cell?_setCell_other _ _ _ _ (fun e2 => hf _ _ _ rfl _ e (by have := congrArg Addr.block e2; exact this.symm))]
    exact hr.cells b off e j hj
theorem over_start {n X Y : Nat} (i : Nat) (hi : X < 2 ^ i) : OverRel 4294967296 n X Y (List.replicate n 0) i 0 :=
  ⟨by simp, dig_zeros (by omega) _, by rw [vl_zeros, Nat.div_eq_of_lt hi, Nat.zero_div, Nat.mul_zero], by rw [Nat.div_eq_of_lt hi, Nat.zero_mod]⟩
set_option maxRecDepth 100000 in
set_option maxHeartbeats 4000000 in
theorem rover_any {v1 v2 : Value} {k1 k2 X Y : Nat} (w : World) (h1 : IsH w v1 k1 X) (h2 : IsH w v2 k2 Y) (b1 : k1 ≤ 32768) (b2 : k2 ≤ 32768) (hY : 0 < Y) : Calls Tryz.prog 59 #[v1, v2] w (TellsHH w k1 (X / Y) k2 (X % Y)) := by
  have hX := h1.lt
  have hYk := h2.lt
  have hQk : X / Y < 4294967296 ^ k1 := Nat.lt_of_le_of_lt (Nat.div_le_self _ _) hX
  have hbits := rbits_any w h1 (by omega)
  have hbl := blen_lt X
  have h1' := h1
  obtain ⟨A1, c1, xs, rfl, r1, hc1, hm1, hl1, hx⟩ := h1'
  have hlen : xs.length ≤ 32768 := by omega
  have hb32 : blen X ≤ 32 * xs.length := blen_le (by rw [Nat.pow_mul]; exact hx.lt)
  have hmk := run_makeU (P := Tryz.prog) 32 22 under_u64s info_u64 xs.length (by omega)
  obtain ⟨n, hn⟩ : ∃ n, blen X = n := ⟨_, rfl⟩
  obtain ⟨sz, hsz⟩ : ∃ n, xs.length = n := ⟨_, rfl⟩
  rw [hn] at hbits hbl hb32
  rw [hsz] at hb32 hlen hmk
  have hst := over_start (n := sz) (Y := Y) n hbl
  have h1p : pH (.slice A1 xs.length c1) k1 X w := h1
  have h2p : pH v2 k2 Y w := h2
  have hbA : Below w.heap.size w ((w.alloc (.cells (madeCells #[.int .u64 0] sz) 22)).alloc (.cells #[] 22)) := ((Below.refl _ _).alloc (Nat.le_refl _) _).alloc (by simp) _
  have hbits2 := rbits_any _ (h1.below hbA) (by omega)
  rw [hn] at hbits2
  rw [hsz] at hbits2 h1p
  have hr0 : pH (.slice (some ⟨w.heap.size + 1, 0, none⟩) 0 0) k2 0 ((w.alloc (.cells (madeCells #[.int .u64 0] sz) 22)).alloc (.cells #[] 22)) := by
    have := IsH.lit (w.alloc (.cells (madeCells #[.int .u64 0] sz) 22)) [] #[] 0 0 rfl (by decide) (fun h => absurd rfl h) rfl (by omega) rfl
    rw [size_alloc1] at this
    exact this.fit (Nat.pow_pos (by omega))
  replace hX := Lib.hid hX
  replace hYk := Lib.hid hYk
  replace hQk := Lib.hid hQk
  replace hbl := Lib.hid hbl
  replace hn := Lib.hid hn
  replace hb32 := Lib.hid hb32
  replace hbits2 := Lib.hid hbits2
  have hYp := Lib.hid hY
  clear hbits h1 h2 hx r1 hc1 hm1 hl1 hY
  have hn3 : n ≤ 32 * sz := hb32.out
  go_enter Tryz.func59, Tryz.ntmps59
  go_wp2_with fail
  refine hbits2.out.mono ?_
  rintro e w' ⟨rfl, rfl⟩
  clear hmk hbits2
  go_wp2
  go_loopg [7, 8] n (fun k rv iv wr => ∃ (R : Nat) (L : List Nat), iv = .int .i64 k ∧ k ≤ n ∧ pH rv k2 R wr ∧ BlkU wr w.heap.size 22 L ∧ Below w.heap.size w wr ∧ OverRel 4294967296 sz X Y L k R)
  case atStart => exact ⟨0, _, rfl, Nat.le_refl _, hr0, (BlkU.made w 22 sz).alloc _, hbA, hst⟩
  case round =>
    clear hr0 hbA hst
    obtain ⟨R, L, rfl, hkn, hr, hB, hbw, hR⟩ := hrel
    have hzw := hbw.size
    have hlenL := hR.len
    by_cases h0 : gk = 0
    · subst h0
      have hv : vl 4294967296 L = X / Y := by rw [hR.val, Nat.pow_zero, Nat.one_mul, Nat.div_one]
      have hre : R = X % Y := by rw [hR.rest, Nat.pow_zero, Nat.div_one]
      subst hre
      have ht := trim_blk_same (k := k1) hB hlenL (by omega) hR.dig hv hQk.out
      replace ht := Lib.hid ht
      replace hv := Lib.hid hv
      clear hR
      go_wp2_with fail
      refine ht.out.mono ?_
      rintro e w1 ⟨u, rfl, hu, rfl⟩
      go_wp2
      go_ret2
      exact ⟨u, _, rfl, hu, hr, hbw⟩
    · obtain ⟨m, rfl⟩ : ∃ m, gk = m + 1 := ⟨gk - 1, by omega⟩
      have hRY : R < Y := hR.rest ▸ Nat.mod_lt _ hYp.out
      have hYk1 : Y * 4294967296 ≤ 4294967296 ^ (k2 + 1) := by rw [Nat.pow_succ]; exact Nat.mul_le_mul_right _ (Nat.le_of_lt hYk.out)
      have hup := up_any 1 (k2 + 1) wr hr (by omega) (by omega) (by omega)
      rw [show R * 2 ^ 1 = 2 * R by omega] at hup
      obtain ⟨q, hq⟩ : ∃ q, m / 32 = q := ⟨_, rfl⟩
      obtain ⟨r, hr'⟩ : ∃ r, m % 32 = r := ⟨_, rfl⟩
      have hqi : (m : Int) / 32 = (q : Int) := by omega
      have hri : (m : Int) % 32 = (r : Int) := by omega
      have hr32 : r < 32 := by omega
      have hqs : q < sz := by omega
      have hqs' : (q : Int) < (sz : Int) := by omega
      obtain ⟨d, hd⟩ : ∃ d, L.getD q 0 = d := ⟨_, rfl⟩
      obtain ⟨p, hp⟩ : ∃ p, 2 ^ r = p := ⟨_, rfl⟩
      have hpi : (2 : Int) ^ r = (p : Int) := by rw [← hp]; push_cast; rfl
      have hhs := half_step X m
      have hless := fun (b : Nat) hb hlt => over_less (b := b) hR hYp.out hb hlt
      have hmore := fun (b : Nat) hb1 hb hge => over_more (b := b) (d := d) hR hYp.out hb1 hb hge (by rw [hq]; exact hqs) (by rw [hq]; exact hd)
      rw [hq, hr', hp] at hmore
      have hbit := fun (w1 : World) (h : IsH w1 (.slice A1 sz c1) k1 X) => rbit_any m (by omega) w1 h
      have h32 : (32 : Int) ≠ 0 := by decide
      replace hup := Lib.hid hup
      replace hless := Lib.hid hless
      replace hmore := Lib.hid hmore
      replace hbit := Lib.hid hbit
      replace hq := Lib.hid hq
      replace hr' := Lib.hid hr'
      replace hp := Lib.hid hp
      replace hd := Lib.hid hd
      replace hYk1 := Lib.hid hYk1
      replace hhs := Lib.hid hhs
      clear hR
      go_wp2_with fail
      refine hup.out.mono ?_
      rintro e w1 ⟨u, rfl, hu, hb1, -⟩
      have hBa := hB.below hb1 hB.lt
      have hbwa := hbw.trans (hb1.mono hzw)
      have h1a := h1p.below hbwa
      have h2a := h2p.below hbwa
      have hzwa := hbwa.size
      clear hr hB hbw hb1 hup
      cases hbb : X.testBit m with
      | false =>
        have hbt := hbit.out w1 h1a
        rw [hbb] at hbt
        have hhs2 := hhs.out
        rw [hbb] at hhs2
        replace hbb := Lib.hid hbb
        replace hhs2 := Lib.hid hhs2
        go_wp2_with fail
        refine hbt.mono ?_
        rintro e w' ⟨rfl, rfl⟩
        clear hbt
        replace hu : pH u (k2 + 1) (2 * R + 0) w1 := hu
        have hcmp := rcmp_any w1 hu h2a (by omega) (by omega)
        rcases Nat.lt_or_ge (2 * R + 0) Y with hlt | hge
        · rw [cmpV_lt (by omega)] at hcmp
          have hfin := hless.out 0 (by rw [hhs2.out]; simp) hlt
          have hu5 : pH u k2 (2 * R + 0) w1 := IsH.fit hu (Nat.lt_trans hlt hYk.out)
          replace hlt := Lib.hid hlt
          replace hfin := Lib.hid hfin
          go_wp2_with fail
          refine hcmp.mono ?_
          rintro e w' ⟨rfl, rfl⟩
          clear hcmp
          go_wp2
          go_roundg m
          case measure => omega
          case rel => exact ⟨2 * R + 0, L, by go_num, by omega, hu5, hBa, hbwa, hfin.out⟩
        · obtain ⟨c, hc0, hc⟩ : ∃ c : Int, 0 ≤ c ∧ cmpV ((2 * R + 0 : Nat) : Int) (Y : Int) = c := by
            rcases Nat.eq_or_lt_of_le hge with h | h
            · exact ⟨0, by omega, cmpV_eq (by omega)⟩
            · exact ⟨1, by omega, cmpV_gt (by omega)⟩
          rw [hc] at hcmp
          have hmi := minus_any w1 hu h2a (by omega) hge
          obtain ⟨hdp, hfin⟩ := hmore.out 0 (by omega) (by rw [hhs2.out]; simp) hge
          have hSY : 2 * R + 0 - Y < Y := by omega
          obtain ⟨S, hS⟩ : ∃ S, 2 * R + 0 - Y = S := ⟨_, rfl⟩
          rw [hS] at hmi hfin hSY
          obtain ⟨T, hT⟩ : ∃ T, d + p = T := ⟨_, rfl⟩
          rw [hT] at hfin hdp
          have hTi : (d : Int) + (p : Int) = (T : Int) := by omega
          have hwT : IntKind.u64.wrap ((d : Int) + (p : Int)) = (T : Int) := by rw [wrap_u64]; omega
          have hpw : IntKind.u64.wrap ((2 : Int) ^ r) = (p : Int) := by rw [hpi, wrap_u64]; omega
          replace hc := Lib.hid hc
          replace hge := Lib.hid hge
          replace hfin := Lib.hid hfin
          replace hmi := Lib.hid hmi
          replace hS := Lib.hid hS
          replace hT := Lib.hid hT
          go_wp2_with fail
          refine hcmp.mono ?_
          rintro e w' ⟨rfl, rfl⟩
          clear hcmp
          go_wp2_with fail
          refine hmi.out.mono ?_
          rintro e w5 ⟨u5, rfl, hu5, hb5, hnew⟩
          have hB5 := hBa.below hb5 hBa.lt
          have hbw5 := hbwa.trans (hb5.mono hbwa.size)
          have hu6 : pH u5 k2 S w5 := IsH.fit hu5 (Nat.lt_trans hSY hYk.out)
          have hcell := hB5.cell q (by rw [hlenL]; exact hqs)
          rw [hd.out] at hcell
          have hset := hB5.set q T
          have hfr := hB5.frozen q
          have hu7 := hu6.far (g := w.heap.size) (i := q) (u := .int .u64 (T : Int)) (fun A n c e a ha => by have h1 := hnew A n c e a ha; have h2 := hBa.lt; omega)
          clear hu h1a h2a hBa hbwa hu5 hb5 hmi hB5 hnew
          go_wp2
          go_roundg m
          case measure => omega
          case rel => exact ⟨S, _, by go_num, by omega, hu7, hset, hbw5.setCell (Nat.le_refl _) _, hfin.out⟩
      | true =>
        have hbt := hbit.out w1 h1a
        rw [hbb] at hbt
        have hhs2 := hhs.out
        rw [hbb] at hhs2
        have hlit : IsH (w1.alloc (.cells #[.int .u64 1] 22)) (.slice (some ⟨w1.heap.size, 0, none⟩) 1 1) 1 1 := IsH.lit w1 [1] _ 1 1 rfl (by decide) (fun _ => by simp) rfl (by omega) (by decide)
        have hbl2 : Below w1.heap.size w1 (w1.alloc (.cells #[.int .u64 1] 22)) := (Below.refl _ _).alloc (Nat.le_refl _) _
        have hpl := plus_any (k2 + 1) _ (hu.below hbl2) hlit (by omega) (by omega) (by have := hYk1.out; omega)
        replace hbb := Lib.hid hbb
        replace hhs2 := Lib.hid hhs2
        replace hpl := Lib.hid hpl
        clear hlit
        go_wp2_with fail
        refine hbt.mono ?_
        rintro e w' ⟨rfl, rfl⟩
        clear hbt
        go_wp2_with fail
        refine hpl.out.mono ?_
        rintro e w2 ⟨u2, rfl, hu2, hb2, -⟩
        have hb2' := hbl2.trans (hb2.mono (by simp))
        have h1b := h1a.below hb2'
        have h2b := h2a.below hb2'
        have hBb := hBa.below hb2' hBa.lt
        have hbwb := hbwa.trans (hb2'.mono hzwa)
        clear hu h1a h2a hBa hbwa hbl2 hb2 hpl hzwa hb2'
        have hcmp := rcmp_any w2 hu2 h2b (by omega) (by omega)
        rcases Nat.lt_or_ge (2 * R + 1) Y with hlt | hge
        · rw [cmpV_lt (by omega)] at hcmp
          have hfin := hless.out 1 (by rw [hhs2.out]; simp) hlt
          have hu5 : pH u2 k2 (2 * R + 1) w2 := IsH.fit hu2 (Nat.lt_trans hlt hYk.out)
          replace hlt := Lib.hid hlt
          replace hfin := Lib.hid hfin
          go_wp2_with fail
          refine hcmp.mono ?_
          rintro e w' ⟨rfl, rfl⟩
          clear hcmp
          go_wp2
          go_roundg m
          case measure => omega
          case rel => exact ⟨2 * R + 1, L, by go_num, by omega, hu5, hBb, hbwb, hfin.out⟩
        · obtain ⟨c, hc0, hc⟩ : ∃ c : Int, 0 ≤ c ∧ cmpV ((2 * R + 1 : Nat) : Int) (Y : Int) = c := by
            rcases Nat.eq_or_lt_of_le hge with h | h
            · exact ⟨0, by omega, cmpV_eq (by omega)⟩
            · exact ⟨1, by omega, cmpV_gt (by omega)⟩
          rw [hc] at hcmp
          have hmi := minus_any w2 hu2 h2b (by omega) hge
          obtain ⟨hdp, hfin⟩ := hmore.out 1 (by omega) (by rw [hhs2.out]; simp) hge
          have hSY : 2 * R + 1 - Y < Y := by omega
          obtain ⟨S, hS⟩ : ∃ S, 2 * R + 1 - Y = S := ⟨_, rfl⟩
          rw [hS] at hmi hfin hSY
          obtain ⟨T, hT⟩ : ∃ T, d + p = T := ⟨_, rfl⟩
          rw [hT] at hfin hdp
          have hTi : (d : Int) + (p : Int) = (T : Int) := by omega
          have hwT : IntKind.u64.wrap ((d : Int) + (p : Int)) = (T : Int) := by rw [wrap_u64]; omega
          have hpw : IntKind.u64.wrap ((2 : Int) ^ r) = (p : Int) := by rw [hpi, wrap_u64]; omega
          replace hc := Lib.hid hc
          replace hge := Lib.hid hge
          replace hfin := Lib.hid hfin
          replace hmi := Lib.hid hmi
          replace hS := Lib.hid hS
          replace hT := Lib.hid hT
          go_wp2_with fail
          refine hcmp.mono ?_
          rintro e w' ⟨rfl, rfl⟩
          clear hcmp
          go_wp2_with fail
          refine hmi.out.mono ?_
          rintro e w5 ⟨u5, rfl, hu5, hb5, hnew⟩
          have hB5 := hBb.below hb5 hBb.lt
          have hbw5 := hbwb.trans (hb5.mono hbwb.size)
          have hu6 : pH u5 k2 S w5 := IsH.fit hu5 (Nat.lt_trans hSY hYk.out)
          have hcell := hB5.cell q (by rw [hlenL]; exact hqs)
          rw [hd.out] at hcell
          have hset := hB5.set q T
          have hfr := hB5.frozen q
          have hu7 := hu6.far (g := w.heap.size) (i := q) (u := .int .u64 (T : Int)) (fun A n c e a ha => by have h1 := hnew A n c e a ha; have h2 := hBb.lt; omega)
          clear hu2 h1b h2b hBb hbwb hu5 hb5 hmi hB5 hnew
          go_wp2
          go_roundg m
          case measure => omega
          case rel => exact ⟨S, _, by go_num, by omega, hu7, hset, hbw5.setCell (Nat.le_refl _) _, hfin.out⟩
end Go.Proofs.YtncfbleeidjflaaGreatDoor
namespace Go.Cal
open Go.RowKit
/-- Digits from the last one on: n of them are told, N is left. -/
structure DigR (X n N : Nat) (L : List UInt8) : Prop where
  len : L.length = n
  dig : ∀ c ∈ L, isDig c = true
  val : numV L.reverse + 10 ^ n * N = X
  top : n ≤ 1 ∨ 0 < N ∨ L.getLast? ≠ some 48
theorem DigR.start (X : Nat) : DigR X 0 X [] := ⟨rfl, fun c hc => by simp at hc, by simp [numV], .inl (by omega)⟩
theorem DigR.step {X n N : Nat} {L : List UInt8} (h : DigR X n N L) (hN : 0 < N ∨ n = 0) : DigR X (n + 1) (N / 10) (L ++ [UInt8.ofNat (48 + N % 10)]) := by
  have hm := Nat.mod_lt N (show 0 < 10 by omega)
  refine ⟨by simp [h.len], ?_, ?_, ?_⟩
  · intro c hc
    rcases List.mem_append.1 hc with hc | hc
    · exact h.dig c hc
    · rw [List.mem_singleton] at hc; subst hc; exact isDig_ofNat hm
  · have hv := h.val
    have e : (L ++ [UInt8.ofNat (48 + N % 10)]).reverse = [UInt8.ofNat (48 + N % 10)] ++ L.reverse := by simp
    rw [e, numV_append, List.length_reverse, h.len, Nat.pow_succ, Nat.mul_assoc]
    have e1 : numV [UInt8.ofNat (48 + N % 10)] = N % 10 := by
      show 0 * 10 + ((UInt8.ofNat (48 + N % 10)).toNat - 48) = _
      rw [digit_toNat hm]; omega
    rw [e1, Nat.mul_comm (N % 10), ← hv]
    have := Nat.div_add_mod N 10
    have h2 : 10 ^ n * N = 10 ^ n * (10 * (N / 10)) + 10 ^ n * (N % 10) := by rw [← Nat.mul_add, this]
    omega
  · rcases Nat.eq_zero_or_pos n with h0 | h0
    · exact .inl (by omega)
    · rcases Nat.eq_zero_or_pos (N / 10) with h1 | h1
      · refine .inr (.inr ?_)
        rw [List.getLast?_append]
        simp only [List.getLast?_singleton, Option.some_or, ne_eq, Option.some.injEq]
        intro e
        have := digit_toNat hm
        rw [e] at this
        have e48 : (48 : UInt8).toNat = 48 := rfl
        omega
      · exact .inr (.inl h1)
theorem DigR.done {X n : Nat} {L : List UInt8} (h : DigR X n 0 L) (hn : 0 < n) : Lib.decDigits X = L.reverse := by
  have hv := h.val
  rw [Nat.mul_zero, Nat.add_zero] at hv
  rw [← hv]
  refine dec_numV (fun e => by have := h.len; rw [List.reverse_eq_nil_iff.1 e] at this; simp at this; omega) (fun c hc => h.dig c (List.mem_reverse.1 hc)) (fun e => ?_)
  rw [List.head?_reverse] at e
  have hl := h.len
  rw [List.length_reverse, hl]
  rcases h.top with h1 | h1 | h1
  · omega
  · omega
  · exact absurd e h1
theorem DigR.few {X n N k : Nat} {L : List UInt8} (h : DigR X n N L) (hN : 0 < N) (hX : X < 2 ^ k) : n < k := by
  have hv := h.val
  rcases Nat.lt_or_ge n k with h1 | h1
  · exact h1
  · exfalso
    have h2 : 2 ^ k ≤ 2 ^ n := Nat.pow_le_pow_right (by omega) h1
    have h3 : 2 ^ n ≤ 10 ^ n := Nat.pow_le_pow_left (by omega) n
    have h4 : 10 ^ n * 1 ≤ 10 ^ n * N := Nat.mul_le_mul_left _ hN
    omega
/-- A row being turned round: i at each end are. -/
structure TurnR (L M : List UInt8) (i : Nat) : Prop where
  len : M.length = L.length
  at' : ∀ j, j < L.length → M.getD j 0 = if j < i ∨ L.length - i ≤ j then L.getD (L.length - 1 - j) 0 else L.getD j 0
theorem TurnR.start (L : List UInt8) : TurnR L L 0 := ⟨rfl, fun j hj => by rw [if_neg (by omega)]⟩
theorem getB_set_ne {xs : List UInt8} {k i : Nat} {x : UInt8} (h : k ≠ i) : (xs.set k x).getD i 0 = xs.getD i 0 := by
  simp [List.getD_eq_getElem?_getD, List.getElem?_set_ne h]
theorem getB_set_eq {xs : List UInt8} {k : Nat} {x : UInt8} (h : k < xs.length) : (xs.set k x).getD k 0 = x := by
  simp [List.getD_eq_getElem?_getD, h]
theorem TurnR.step {L M : List UInt8} {i : Nat} (h : TurnR L M i) (hi : 2 * i + 1 < L.length) : TurnR L ((M.set i (M.getD (L.length - 1 - i) 0)).set (L.length - 1 - i) (M.getD i 0)) (i + 1) := by
  have hl := h.len
  have g1 := h.at' i (by omega)
  have g2 := h.at' (L.length - 1 - i) (by omega)
  rw [if_neg (by omega)] at g1 g2
  refine ⟨by simp [hl], fun j hj => ?_⟩
  by_cases e1 : j = L.length - 1 - i
  · subst e1
    rw [getB_set_eq (by simp; omega), g1, if_pos (by omega)]
    congr 1; omega
  · by_cases e2 : j = i
    · subst e2
      rw [getB_set_ne (by omega), getB_set_eq (by omega), g2, if_pos (by omega)]
    · rw [getB_set_ne (by omega), getB_set_ne (by omega), h.at' j hj]
      by_cases e3 : j < i ∨ L.length - i ≤ j
      · rw [if_pos e3, if_pos (by omega)]
      · rw [if_neg e3, if_neg (by omega)]
theorem TurnR.done {L M : List UInt8} {i : Nat} (h : TurnR L M i) (hi : L.length ≤ 2 * i + 1) : M = L.reverse := by
  apply List.ext_getElem (by simp [h.len])
  intro j h1 h2
  have hl := h.len
  have g := h.at' j (by omega)
  rw [List.getElem_reverse]
  have e1 : M.getD j 0 = M[j] := by simp [List.getD_eq_getElem?_getD, h1]
  have e2 : L.getD (L.length - 1 - j) 0 = L[L.length - 1 - j]'(by omega) := by simp [List.getD_eq_getElem?_getD, show L.length - 1 - j < L.length by omega]
  rw [← e1, ← e2, g]
  by_cases e3 : j < i ∨ L.length - i ≤ j
  · rw [if_pos e3]
  · rw [if_neg e3, show L.length - 1 - j = j by omega]
/-- Bytes as cells. -/
def lB (l : List UInt8) : List Value := l.map fun x => Value.int .u8 (x.toNat : Int)
theorem lB_at (l : List UInt8) (i : Nat) (hi : i < l.length) : (lB l)[i]? = some (.int .u8 ((l.getD i 0).toNat : Int)) := by
  simp [lB, List.getD_eq_getElem?_getD, hi]
theorem lB_snoc (l : List UInt8) (x : UInt8) : lB l ++ [.int .u8 (x.toNat : Int)] = lB (l ++ [x]) := by simp [lB]
/-- Block g begins with the bytes l, none frozen. -/
def BlkB (w : World) (g : Nat) (t : TypeId) (l : List UInt8) : Prop := ∃ cs : Array Value, w.heap[g]? = some (.cells cs t (0, 0)) ∧ ∀ i, i < l.length → cs[i]? = some (.int .u8 ((l.getD i 0).toNat : Int))
section
variable {w w' : World} {g : Nat} {t : TypeId} {L : List UInt8}
theorem BlkB.lt (h : BlkB w g t L) : g < w.heap.size := by
  obtain ⟨cs, h, _⟩ := h
  exact (Array.getElem?_eq_some_iff.1 h).1
theorem BlkB.cell (h : BlkB w g t L) (i : Nat) (hi : i < L.length) : w.cell? ⟨g, i, none⟩ = some (.int .u8 ((L.getD i 0).toNat : Int)) := by
  obtain ⟨cs, h, hc⟩ := h
  rw [cell_of_row w g i _ t (0, 0) h]
  exact hc i hi
theorem BlkB.frozen (h : BlkB w g t L) (i : Nat) : w.frozen? ⟨g, i, none⟩ = false := by
  obtain ⟨cs, h, _⟩ := h
  simp [World.frozen?, h]
theorem BlkB.same (h : BlkB w g t L) (e : w'.heap[g]? = w.heap[g]?) : BlkB w' g t L := by
  obtain ⟨cs, h, hc⟩ := h
  exact ⟨cs, e.trans h, hc⟩
theorem BlkB.set (h : BlkB w g t L) (i : Nat) (x : UInt8) : BlkB (w.setCell ⟨g, i, none⟩ (.int .u8 (x.toNat : Int))) g t (L.set i x) := by
  obtain ⟨cs, h, hc⟩ := h
  refine ⟨cs.setIfInBounds i (.int .u8 (x.toNat : Int)), by simp [World.setCell, Array.getElem?_modify, h], fun j hj => ?_⟩
  rw [List.length_set] at hj
  have hcj := hc j hj
  have hjs : j < cs.size := (Array.getElem?_eq_some_iff.1 hcj).1
  rw [Array.getElem?_setIfInBounds]
  by_cases e : i = j
  · subst e
    simp [hjs, List.getD_eq_getElem?_getD, hj]
  · rw [if_neg e, hcj]
    simp [List.getD_eq_getElem?_getD, List.getElem?_set_ne e]
theorem BlkB.bytes (h : BlkB w g t L) : Lib.Bytes w g 0 ⟨L.toArray⟩ := fun i hi => by
  have hi' : i < L.length := by simpa [ByteArray.size] using hi
  rw [Nat.zero_add, h.cell i hi']
  have : L.getD i 0 = (⟨L.toArray⟩ : ByteArray)[i] := by
    show _ = L.toArray[i]
    simp [List.getD_eq_getElem?_getD, hi']
  rw [this]
theorem BlkB.of_own {base n : Nat} {v : Value} (h : w.ownsRow base t 1 v n (lB L)) (hn : n = L.length) (h0 : 0 < n) :
    ∃ g cap, v = .slice (some ⟨g, 0, none⟩) n cap ∧ base ≤ g ∧ g < w.heap.size ∧ n ≤ cap ∧ cap ≤ maxLen ∧ BlkB w g t L := by
  obtain ⟨_, ⟨rfl, h1⟩ | ⟨g, cap, cur, rfl, hg, hw, hn', hm, hs, ht⟩⟩ := h
  · omega
  · refine ⟨g, cap, rfl, hg, (Array.getElem?_eq_some_iff.1 hw).1, hn', hm, cur, hw, fun i hi => ?_⟩
    rw [← lB_at L i hi, ← ht, List.getElem?_take_of_lt (by omega), Array.getElem?_toList]
end
end Go.Cal
