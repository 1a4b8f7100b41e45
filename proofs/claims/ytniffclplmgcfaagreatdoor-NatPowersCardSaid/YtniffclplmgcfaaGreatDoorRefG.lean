/- The document's half words, seventh part: powers; how often one number goes into another. Conditions: a number's half words are counted. -/
import Derived.Test.YtniffclplmgcfaaGreatDoorRefF
namespace Go.Proofs.YtniffclplmgcfaaGreatDoor
open Go.RowKit Go.Cal
theorem size_alloc1 (w : World) (o : Obj) : (w.alloc o).heap.size = w.heap.size + 1 := by simp
/-- A call tells one number in half words. -/
def TellsH0 (w : World) (k N : Nat) (e : Ending) (w' : World) : Prop := ∃ v, e = .returned v ∧ pH v k N w' ∧ Below w.heap.size w w'
/-- A slice of words that the text itself lays. -/
theorem isN_lit (w : World) (L : List Nat) (cs : Array Value) (k N : Nat) (hcs : cs = (lU L).toArray) (hd : Dig 18446744073709551616 L) (hk : L.length = k) (hv : vl 18446744073709551616 L = N) : IsN (w.alloc (.cells cs 39)) (.slice (some ⟨w.heap.size, 0, none⟩) k k) k N := by
  subst hk; subst hv
  exact .lit w L cs hcs hd
set_option maxRecDepth 100000 in
set_option maxHeartbeats 2000000 in
theorem rpow_any (base n : Nat) (hb : base < 18446744073709551616) (hn : n ≤ 1000) (w : World) : Calls Tryz.prog 38 #[.int .u64 base, .int .i64 n] w (TellsH0 w (2 * n + 1) (base ^ n)) := by
  have hpw : ∀ i, base ^ i < 4294967296 ^ (2 * i + 1) := fun i => by
    rw [Nat.pow_succ, Nat.pow_mul]
    have h1 : base ^ i ≤ (4294967296 ^ 2) ^ i := Nat.pow_le_pow_left (by omega) i
    have h2 : 0 < (4294967296 ^ 2) ^ i := Nat.pow_pos (by omega)
    omega
  have h1 : IsH (w.alloc (.cells #[.int .u64 1] 39)) (.slice (some ⟨w.heap.size, 0, none⟩) 1 1) 1 1 := IsH.lit w [1] _ 1 1 rfl (by decide) (fun _ => by simp) rfl (by omega) (by decide)
  have h2 := isN_lit (w.alloc (.cells #[.int .u64 1] 39)) [base] #[.int .u64 base] 1 base rfl (fun x hx => by simp at hx; omega) rfl (by simp [vl])
  have hh := halves_any _ h2 (by omega)
  have hb0 : Below w.heap.size w (w.alloc (.cells #[.int .u64 1] 39)) := (Below.refl _ _).alloc (Nat.le_refl _) _
  have h1' := h1.below ((Below.refl _ _).alloc (Nat.le_refl _) (.cells #[.int .u64 (base : Int)] 39))
  have hb1 := hb0.alloc hb0.size (.cells #[.int .u64 (base : Int)] 39)
  rw [size_alloc1] at hh
  replace hh := Lib.hid hh
  replace hpw := Lib.hid hpw
  clear h1 h2 hb0
  go_enter Tryz.func38, Tryz.ntmps38
  go_wp2_with fail
  refine hh.out.mono ?_
  rintro e w1 ⟨u, rfl, hu, hb2, -⟩
  have hz1 := hb1.size
  have h1'' := h1'.below hb2
  have hbw1 := hb1.trans (hb2.mono hz1)
  clear h1' hb1 hb2 hh
  go_wp2
  go_loopg [5, 7] n (fun k ov iv wr => ∃ i : Nat, iv = .int .i64 i ∧ i + k = n ∧ pH ov (2 * i + 1) (base ^ i) wr ∧ pH u 2 base wr ∧ Below w.heap.size w wr)
  case atStart => exact ⟨0, rfl, by omega, by rw [Nat.pow_zero]; exact h1'', hu, hbw1⟩
  case round =>
    clear h1'' hu hbw1
    obtain ⟨i, rfl, hik, ho, hu, hbw⟩ := hrel
    by_cases h0 : gk = 0
    · subst h0
      have hie : i = n := by omega
      subst hie
      clear hik
      go_wp2
      go_ret
      exact ⟨_, rfl, ho, hbw⟩
    · have hii : (i : Int) < (n : Int) := by omega
      have ht := times_any wr ho hu (by omega) (by omega)
      replace ht := Lib.hid ht
      go_wp2_with fail
      refine ht.out.mono ?_
      rintro e w2 ⟨v, rfl, hv, hb2, -⟩
      rw [← Nat.pow_succ] at hv
      have hu2 := hu.below hb2
      have hv2 : pH v (2 * (i + 1) + 1) (base ^ (i + 1)) w2 := IsH.fit hv (hpw.out _)
      clear ht ho hu hv
      go_wp2
      go_roundg (gk - 1)
      case measure => omega
      case rel => exact ⟨i + 1, by go_num, by omega, hv2, hu2, hbw.trans (hb2.mono hbw.size)⟩
/-- How often, digit by digit. -/
structure OverRel (H : Nat) (n X Y : Nat) (L : List Nat) (i R : Nat) : Prop where
  len : L.length = n
  dig : Dig H L
  val : vl H L = 2 ^ i * (X / 2 ^ i / Y)
  rest : R = X / 2 ^ i % Y
theorem half_step (X m : Nat) : X / 2 ^ m = 2 * (X / 2 ^ (m + 1)) + (if X.testBit m then 1 else 0) := by
  rw [Nat.testBit_eq_decide_div_mod_eq, Nat.pow_succ, ← Nat.div_div_eq_div_mul]
  have h1 := Nat.div_add_mod (X / 2 ^ m) 2
  by_cases h : X / 2 ^ m % 2 = 1
  · simp [h]; omega
  · simp [h]; omega
theorem over_less {H n X Y : Nat} {L : List Nat} {m R b : Nat} (h : OverRel H n X Y L (m + 1) R) (hY : 0 < Y) (hb : X / 2 ^ m = 2 * (X / 2 ^ (m + 1)) + b) (hlt : 2 * R + b < Y) : OverRel H n X Y L m (2 * R + b) := by
  have hr := h.rest
  have hd := Nat.div_add_mod (X / 2 ^ (m + 1)) Y
  rw [← hr] at hd
  have hval := h.val
  generalize X / 2 ^ (m + 1) / Y = K at hd hval
  have e : X / 2 ^ m = Y * (2 * K) + (2 * R + b) := by
    rw [hb, Nat.mul_left_comm]; omega
  refine ⟨h.len, h.dig, ?_, ?_⟩
  · rw [hval, e, Nat.mul_add_div hY, Nat.div_eq_of_lt hlt]; simp only [Nat.add_zero, Nat.pow_succ, Nat.mul_assoc]
  · rw [e, Nat.mul_add_mod, Nat.mod_eq_of_lt hlt]
theorem over_more {n X Y : Nat} {L : List Nat} {m R b d : Nat} (h : OverRel 4294967296 n X Y L (m + 1) R) (hY : 0 < Y) (hb1 : b ≤ 1) (hb : X / 2 ^ m = 2 * (X / 2 ^ (m + 1)) + b) (hge : Y ≤ 2 * R + b) (hm : m / 32 < n) (hd : L.getD (m / 32) 0 = d) :
    d + 2 ^ (m % 32) < 4294967296 ∧ OverRel 4294967296 n X Y (L.set (m / 32) (d + 2 ^ (m % 32))) m (2 * R + b - Y) := by
  have hr := h.rest
  have hlt : R < Y := hr ▸ Nat.mod_lt _ hY
  have hdm := Nat.div_add_mod (X / 2 ^ (m + 1)) Y
  rw [← hr] at hdm
  generalize hK : X / 2 ^ (m + 1) / Y = K at hdm
  have hr32 := Nat.mod_lt m (show 0 < 32 by omega)
  have e : X / 2 ^ m = Y * (2 * K + 1) + (2 * R + b - Y) := by
    rw [hb, Nat.mul_add, Nat.mul_left_comm]; omega
  have hdb : d + 2 ^ (m % 32) < 4294967296 := by
    have h1 := vl_at (b := 4294967296) (by omega) h.dig (m / 32)
    rw [hd, h.val, hK] at h1
    have h2 : 2 ^ (m + 1) * K / 4294967296 ^ (m / 32) = 2 ^ (m % 32 + 1) * K := by
      rw [show 4294967296 ^ (m / 32) = 2 ^ (32 * (m / 32)) by rw [show 4294967296 = 2 ^ 32 from rfl, ← Nat.pow_mul], show m + 1 = 32 * (m / 32) + (m % 32 + 1) by omega, Nat.pow_add, Nat.mul_assoc, Nat.mul_div_cancel_left _ (Nat.two_pow_pos _)]
    rw [h2] at h1
    obtain ⟨M, hM⟩ : ∃ M, 4294967296 = 2 ^ (m % 32 + 1) * M := ⟨2 ^ (31 - m % 32), by rw [← Nat.pow_add, show m % 32 + 1 + (31 - m % 32) = 32 by omega]⟩
    rw [hM, Nat.mul_mod_mul_left] at h1
    have hM0 : 0 < M := Nat.pos_of_ne_zero (by rintro rfl; simp at hM)
    have h3 := Nat.mod_lt K hM0
    have h4 := Nat.mul_le_mul_left (2 ^ (m % 32 + 1)) (show K % M + 1 ≤ M from h3)
    rw [Nat.mul_add, h1, ← hM, Nat.mul_one, Nat.pow_succ] at h4
    have := Nat.two_pow_pos (m % 32)
    omega
  refine ⟨hdb, by rw [List.length_set]; exact h.len, dig_set h.dig _ hdb, ?_, ?_⟩
  · have hset := vl_set (b := 4294967296) L (m / 32) (d + 2 ^ (m % 32)) (by rw [h.len]; exact hm)
    rw [hd, h.val, hK, Nat.mul_add] at hset
    have hp : 4294967296 ^ (m / 32) * 2 ^ (m % 32) = 2 ^ m := by rw [show 4294967296 = 2 ^ 32 from rfl, ← Nat.pow_mul, ← Nat.pow_add]; congr 1; omega
    rw [hp] at hset
    rw [e, Nat.mul_add_div hY, Nat.div_eq_of_lt (show 2 * R + b - Y < Y by omega), Nat.add_zero, Nat.mul_add, Nat.mul_one]
    rw [Nat.pow_succ, Nat.mul_assoc] at hset
    omega
  · rw [e, Nat.mul_add_mod, Nat.mod_eq_of_lt (show 2 * R + b - Y < Y by omega)]
/-- The end of a row made whole: what Trim makes of it; the world stays. -/
theorem trim_blk_same {wr : World} {g n k N : Nat} {L : List Nat} (hB : BlkU wr g 39 L) (hn : L.length = n) (hl : n ≤ 1099511627776) (hd : Dig 4294967296 L) (hv : vl 4294967296 L = N) (hk : N < 4294967296 ^ k) :
    Calls Tryz.prog 39 #[.slice (some ⟨g, 0, none⟩) n n] wr fun e w' => ∃ v, e = .returned v ∧ pH v k N w' ∧ wr = w' := by
  subst hn
  have hr := (hB.rd 0 L.length (by omega)).more hB.lt
  simp only [List.drop_zero, List.take_length] at hr
  refine (rtrim_any L.length wr hr (Nat.le_refl _) hl (fun e => by cases e)).mono ?_
  rintro e w1 ⟨⟨zs, rfl, ⟨m, rfl⟩, ht, hv'⟩, rfl⟩
  have hz : NrmH (L.take m) N := ⟨dig_take hd m, ht, (hv' _).trans hv⟩
  exact ⟨_, rfl, ⟨_, _, L.take m, rfl, hr.take m, by rw [List.length_take]; omega, ⟨by unfold maxLen; omega, fun e => by cases e⟩, hz.length_le hk, hz⟩, rfl⟩
/-- A call tells two numbers in half words. -/
def TellsHH (w : World) (k N k' N' : Nat) (e : Ending) (w' : World) : Prop := ∃ v v', e = .returned (.tuple #[v, v']) ∧ pH v k N w' ∧ pH v' k' N' w' ∧ Below w.heap.size w w'
theorem pH.far {w : World} {v : Value} {k N g i : Nat} {u : Value} (h : pH v k N w) (hf : ∀ A n c, v = .slice A n c → ∀ a, A = some a → a.block ≠ g) : pH v k N (w.setCell ⟨g, i, none⟩ u) := by
  obtain ⟨A, c, zs, rfl, hr, h3⟩ := h
  refine ⟨A, c, zs, rfl, ⟨?_, fun b off e j hj => ?_⟩, h3⟩
  · rcases hr.place with h | ⟨b, off, e, hb⟩
    · exact .inl h
    · exact .inr ⟨b, off, e, by simpa [World.setCell] using hb⟩
  · rw [World.cell?_setCell_other _ _ _ _ (fun e2 => hf _ _ _ rfl _ e (by have := congrArg Addr.block e2; exact this.symm))]
    exact hr.cells b off e j hj
theorem over_start {n X Y : Nat} (i : Nat) (hi : X < 2 ^ i) : OverRel 4294967296 n X Y (List.replicate n 0) i 0 :=
  ⟨by simp, dig_zeros (by omega) _, by rw [vl_zeros, Nat.div_eq_of_lt hi, Nat.zero_div, Nat.mul_zero], by rw [Nat.div_eq_of_lt hi, Nat.zero_mod]⟩
set_option maxRecDepth 100000 in
set_option maxHeartbeats 4000000 in
theorem rover_any {v1 v2 : Value} {k1 k2 X Y : Nat} (w : World) (h1 : IsH w v1 k1 X) (h2 : IsH w v2 k2 Y) (b1 : k1 ≤ 32768) (b2 : k2 ≤ 32768) (hY : 0 < Y) : Calls Tryz.prog 20 #[v1, v2] w (TellsHH w k1 (X / Y) k2 (X % Y)) := by
  have hX := h1.lt
  have hYk := h2.lt
  have hQk : X / Y < 4294967296 ^ k1 := Nat.lt_of_le_of_lt (Nat.div_le_self _ _) hX
  have hbits := rbits_any w h1 (by omega)
  have hbl := blen_lt X
  have h1' := h1
  obtain ⟨A1, c1, xs, rfl, r1, hc1, hm1, hl1, hx⟩ := h1'
  have hlen : xs.length ≤ 32768 := by omega
  have hb32 : blen X ≤ 32 * xs.length := blen_le (by rw [Nat.pow_mul]; exact hx.lt)
  have hmk := run_makeU (P := Tryz.prog) 22 39 under_u64s info_u64 xs.length (by omega)
  obtain ⟨n, hn⟩ : ∃ n, blen X = n := ⟨_, rfl⟩
  obtain ⟨sz, hsz⟩ : ∃ n, xs.length = n := ⟨_, rfl⟩
  rw [hn] at hbits hbl hb32
  rw [hsz] at hb32 hlen hmk
  have hst := over_start (n := sz) (Y := Y) n hbl
  have h1p : pH (.slice A1 xs.length c1) k1 X w := h1
  have h2p : pH v2 k2 Y w := h2
  have hbA : Below w.heap.size w ((w.alloc (.cells (madeCells #[.int .u64 0] sz) 39)).alloc (.cells #[] 39)) := ((Below.refl _ _).alloc (Nat.le_refl _) _).alloc (by simp) _
  have hbits2 := rbits_any _ (h1.below hbA) (by omega)
  rw [hn] at hbits2
  rw [hsz] at hbits2 h1p
  have hr0 : pH (.slice (some ⟨w.heap.size + 1, 0, none⟩) 0 0) k2 0 ((w.alloc (.cells (madeCells #[.int .u64 0] sz) 39)).alloc (.cells #[] 39)) := by
    have := IsH.lit (w.alloc (.cells (madeCells #[.int .u64 0] sz) 39)) [] #[] 0 0 rfl (by decide) (fun h => absurd rfl h) rfl (by omega) rfl
    rw [size_alloc1] at this
    exact this.fit (Nat.pow_pos (by omega))
  replace hX := Lib.hid hX
  replace hYk := Lib.hid hYk
  replace hQk := Lib.hid hQk
  replace hbl := Lib.hid hbl
  replace hn := Lib.hid hn
  replace hb32 := Lib.hid hb32
  replace hbits2 := Lib.hid hbits2
  have hYp := Lib.hid hY
  clear hbits h1 h2 hx r1 hc1 hm1 hl1 hY
  have hn3 : n ≤ 32 * sz := hb32.out
  go_enter Tryz.func20, Tryz.ntmps20
  go_wp2_with fail
  refine hbits2.out.mono ?_
  rintro e w' ⟨rfl, rfl⟩
  clear hmk hbits2
  go_wp2
  go_loopg [7, 8] n (fun k rv iv wr => ∃ (R : Nat) (L : List Nat), iv = .int .i64 k ∧ k ≤ n ∧ pH rv k2 R wr ∧ BlkU wr w.heap.size 39 L ∧ Below w.heap.size w wr ∧ OverRel 4294967296 sz X Y L k R)
  case atStart => exact ⟨0, _, rfl, Nat.le_refl _, hr0, (BlkU.made w 39 sz).alloc _, hbA, hst⟩
  case round =>
    clear hr0 hbA hst
    obtain ⟨R, L, rfl, hkn, hr, hB, hbw, hR⟩ := hrel
    have hzw := hbw.size
    have hlenL := hR.len
    by_cases h0 : gk = 0
    · subst h0
      have hv : vl 4294967296 L = X / Y := by rw [hR.val, Nat.pow_zero, Nat.one_mul, Nat.div_one]
      have hre : R = X % Y := by rw [hR.rest, Nat.pow_zero, Nat.div_one]
      subst hre
      have ht := trim_blk_same (k := k1) hB hlenL (by omega) hR.dig hv hQk.out
      replace ht := Lib.hid ht
      replace hv := Lib.hid hv
      clear hR
      go_wp2_with fail
      refine ht.out.mono ?_
      rintro e w1 ⟨u, rfl, hu, rfl⟩
      go_wp2
      go_ret2
      exact ⟨u, _, rfl, hu, hr, hbw⟩
    · obtain ⟨m, rfl⟩ : ∃ m, gk = m + 1 := ⟨gk - 1, by omega⟩
      have hRY : R < Y := hR.rest ▸ Nat.mod_lt _ hYp.out
      have hYk1 : Y * 4294967296 ≤ 4294967296 ^ (k2 + 1) := by rw [Nat.pow_succ]; exact Nat.mul_le_mul_right _ (Nat.le_of_lt hYk.out)
      have hup := up_any 1 (k2 + 1) wr hr (by omega) (by omega) (by omega)
      rw [show R * 2 ^ 1 = 2 * R by omega] at hup
      obtain ⟨q, hq⟩ : ∃ q, m / 32 = q := ⟨_, rfl⟩
      obtain ⟨r, hr'⟩ : ∃ r, m % 32 = r := ⟨_, rfl⟩
      have hqi : (m : Int) / 32 = (q : Int) := by omega
      have hri : (m : Int) % 32 = (r : Int) := by omega
      have hr32 : r < 32 := by omega
      have hqs : q < sz := by omega
      have hqs' : (q : Int) < (sz : Int) := by omega
      obtain ⟨d, hd⟩ : ∃ d, L.getD q 0 = d := ⟨_, rfl⟩
      obtain ⟨p, hp⟩ : ∃ p, 2 ^ r = p := ⟨_, rfl⟩
      have hpi : (2 : Int) ^ r = (p : Int) := by rw [← hp]; push_cast; rfl
      have hhs := half_step X m
      have hless := fun (b : Nat) hb hlt => over_less (b := b) hR hYp.out hb hlt
      have hmore := fun (b : Nat) hb1 hb hge => over_more (b := b) (d := d) hR hYp.out hb1 hb hge (by rw [hq]; exact hqs) (by rw [hq]; exact hd)
      rw [hq, hr', hp] at hmore
      have hbit := fun (w1 : World) (h : IsH w1 (.slice A1 sz c1) k1 X) => rbit_any m (by omega) w1 h
      have h32 : (32 : Int) ≠ 0 := by decide
      replace hup := Lib.hid hup
      replace hless := Lib.hid hless
      replace hmore := Lib.hid hmore
      replace hbit := Lib.hid hbit
      replace hq := Lib.hid hq
      replace hr' := Lib.hid hr'
      replace hp := Lib.hid hp
      replace hd := Lib.hid hd
      replace hYk1 := Lib.hid hYk1
      replace hhs := Lib.hid hhs
      clear hR
      go_wp2_with fail
      refine hup.out.mono ?_
      rintro e w1 ⟨u, rfl, hu, hb1, -⟩
      have hBa := hB.below hb1 hB.lt
      have hbwa := hbw.trans (hb1.mono hzw)
      have h1a := h1p.below hbwa
      have h2a := h2p.below hbwa
      have hzwa := hbwa.size
      clear hr hB hbw hb1 hup
      cases hbb : X.testBit m with
      | false =>
        have hbt := hbit.out w1 h1a
        rw [hbb] at hbt
        have hhs2 := hhs.out
        rw [hbb] at hhs2
        replace hbb := Lib.hid hbb
        replace hhs2 := Lib.hid hhs2
        go_wp2_with fail
        refine hbt.mono ?_
        rintro e w' ⟨rfl, rfl⟩
        clear hbt
        replace hu : pH u (k2 + 1) (2 * R + 0) w1 := hu
        have hcmp := rcmp_any w1 hu h2a (by omega) (by omega)
        rcases Nat.lt_or_ge (2 * R + 0) Y with hlt | hge
        · rw [cmpV_lt (by omega)] at hcmp
          have hfin := hless.out 0 (by rw [hhs2.out]; simp) hlt
          have hu5 : pH u k2 (2 * R + 0) w1 := IsH.fit hu (Nat.lt_trans hlt hYk.out)
          replace hlt := Lib.hid hlt
          replace hfin := Lib.hid hfin
          go_wp2_with fail
          refine hcmp.mono ?_
          rintro e w' ⟨rfl, rfl⟩
          clear hcmp
          go_wp2
          go_roundg m
          case measure => omega
          case rel => exact ⟨2 * R + 0, L, by go_num, by omega, hu5, hBa, hbwa, hfin.out⟩
        · obtain ⟨c, hc0, hc⟩ : ∃ c : Int, 0 ≤ c ∧ cmpV ((2 * R + 0 : Nat) : Int) (Y : Int) = c := by
            rcases Nat.eq_or_lt_of_le hge with h | h
            · exact ⟨0, by omega, cmpV_eq (by omega)⟩
            · exact ⟨1, by omega, cmpV_gt (by omega)⟩
          rw [hc] at hcmp
          have hmi := minus_any w1 hu h2a (by omega) hge
          obtain ⟨hdp, hfin⟩ := hmore.out 0 (by omega) (by rw [hhs2.out]; simp) hge
          have hSY : 2 * R + 0 - Y < Y := by omega
          obtain ⟨S, hS⟩ : ∃ S, 2 * R + 0 - Y = S := ⟨_, rfl⟩
          rw [hS] at hmi hfin hSY
          obtain ⟨T, hT⟩ : ∃ T, d + p = T := ⟨_, rfl⟩
          rw [hT] at hfin hdp
          have hTi : (d : Int) + (p : Int) = (T : Int) := by omega
          have hwT : IntKind.u64.wrap ((d : Int) + (p : Int)) = (T : Int) := by rw [wrap_u64]; omega
          have hpw : IntKind.u64.wrap ((2 : Int) ^ r) = (p : Int) := by rw [hpi, wrap_u64]; omega
          replace hc := Lib.hid hc
          replace hge := Lib.hid hge
          replace hfin := Lib.hid hfin
          replace hmi := Lib.hid hmi
          replace hS := Lib.hid hS
          replace hT := Lib.hid hT
          go_wp2_with fail
          refine hcmp.mono ?_
          rintro e w' ⟨rfl, rfl⟩
          clear hcmp
          go_wp2_with fail
          refine hmi.out.mono ?_
          rintro e w5 ⟨u5, rfl, hu5, hb5, hnew⟩
          have hB5 := hBa.below hb5 hBa.lt
          have hbw5 := hbwa.trans (hb5.mono hbwa.size)
          have hu6 : pH u5 k2 S w5 := IsH.fit hu5 (Nat.lt_trans hSY hYk.out)
          have hcell := hB5.cell q (by rw [hlenL]; exact hqs)
          rw [hd.out] at hcell
          have hset := hB5.set q T
          have hfr := hB5.frozen q
          have hu7 := hu6.far (g := w.heap.size) (i := q) (u := .int .u64 (T : Int)) (fun A n c e a ha => by have h1 := hnew A n c e a ha; have h2 := hBa.lt; omega)
          clear hu h1a h2a hBa hbwa hu5 hb5 hmi hB5 hnew
          go_wp2
          go_roundg m
          case measure => omega
          case rel => exact ⟨S, _, by go_num, by omega, hu7, hset, hbw5.setCell (Nat.le_refl _) _, hfin.out⟩
      | true =>
        have hbt := hbit.out w1 h1a
        rw [hbb] at hbt
        have hhs2 := hhs.out
        rw [hbb] at hhs2
        have hlit : IsH (w1.alloc (.cells #[.int .u64 1] 39)) (.slice (some ⟨w1.heap.size, 0, none⟩) 1 1) 1 1 := IsH.lit w1 [1] _ 1 1 rfl (by decide) (fun _ => by simp) rfl (by omega) (by decide)
        have hbl2 : Below w1.heap.size w1 (w1.alloc (.cells #[.int .u64 1] 39)) := (Below.refl _ _).alloc (Nat.le_refl _) _
        have hpl := plus_any (k2 + 1) _ (hu.below hbl2) hlit (by omega) (by omega) (by have := hYk1.out; omega)
        replace hbb := Lib.hid hbb
        replace hhs2 := Lib.hid hhs2
        replace hpl := Lib.hid hpl
        clear hlit
        go_wp2_with fail
        refine hbt.mono ?_
        rintro e w' ⟨rfl, rfl⟩
        clear hbt
        go_wp2_with fail
        refine hpl.out.mono ?_
        rintro e w2 ⟨u2, rfl, hu2, hb2, -⟩
        have hb2' := hbl2.trans (hb2.mono (by simp))
        have h1b := h1a.below hb2'
        have h2b := h2a.below hb2'
        have hBb := hBa.below hb2' hBa.lt
        have hbwb := hbwa.trans (hb2'.mono hzwa)
        clear hu h1a h2a hBa hbwa hbl2 hb2 hpl hzwa hb2'
        have hcmp := rcmp_any w2 hu2 h2b (by omega) (by omega)
        rcases Nat.lt_or_ge (2 * R + 1) Y with hlt | hge
        · rw [cmpV_lt (by omega)] at hcmp
          have hfin := hless.out 1 (by rw [hhs2.out]; simp) hlt
          have hu5 : pH u2 k2 (2 * R + 1) w2 := IsH.fit hu2 (Nat.lt_trans hlt hYk.out)
          replace hlt := Lib.hid hlt
          replace hfin := Lib.hid hfin
          go_wp2_with fail
          refine hcmp.mono ?_
          rintro e w' ⟨rfl, rfl⟩
          clear hcmp
          go_wp2
          go_roundg m
          case measure => omega
          case rel => exact ⟨2 * R + 1, L, by go_num, by omega, hu5, hBb, hbwb, hfin.out⟩
        · obtain ⟨c, hc0, hc⟩ : ∃ c : Int, 0 ≤ c ∧ cmpV ((2 * R + 1 : Nat) : Int) (Y : Int) = c := by
            rcases Nat.eq_or_lt_of_le hge with h | h
            · exact ⟨0, by omega, cmpV_eq (by omega)⟩
            · exact ⟨1, by omega, cmpV_gt (by omega)⟩
          rw [hc] at hcmp
          have hmi := minus_any w2 hu2 h2b (by omega) hge
          obtain ⟨hdp, hfin⟩ := hmore.out 1 (by omega) (by rw [hhs2.out]; simp) hge
          have hSY : 2 * R + 1 - Y < Y := by omega
          obtain ⟨S, hS⟩ : ∃ S, 2 * R + 1 - Y = S := ⟨_, rfl⟩
          rw [hS] at hmi hfin hSY
          obtain ⟨T, hT⟩ : ∃ T, d + p = T := ⟨_, rfl⟩
          rw [hT] at hfin hdp
          have hTi : (d : Int) + (p : Int) = (T : Int) := by omega
          have hwT : IntKind.u64.wrap ((d : Int) + (p : Int)) = (T : Int) := by rw [wrap_u64]; omega
          have hpw : IntKind.u64.wrap ((2 : Int) ^ r) = (p : Int) := by rw [hpi, wrap_u64]; omega
          replace hc := Lib.hid hc
          replace hge := Lib.hid hge
          replace hfin := Lib.hid hfin
          replace hmi := Lib.hid hmi
          replace hS := Lib.hid hS
          replace hT := Lib.hid hT
          go_wp2_with fail
          refine hcmp.mono ?_
          rintro e w' ⟨rfl, rfl⟩
          clear hcmp
          go_wp2_with fail
          refine hmi.out.mono ?_
          rintro e w5 ⟨u5, rfl, hu5, hb5, hnew⟩
          have hB5 := hBb.below hb5 hBb.lt
          have hbw5 := hbwb.trans (hb5.mono hbwb.size)
          have hu6 : pH u5 k2 S w5 := IsH.fit hu5 (Nat.lt_trans hSY hYk.out)
          have hcell := hB5.cell q (by rw [hlenL]; exact hqs)
          rw [hd.out] at hcell
          have hset := hB5.set q T
          have hfr := hB5.frozen q
          have hu7 := hu6.far (g := w.heap.size) (i := q) (u := .int .u64 (T : Int)) (fun A n c e a ha => by have h1 := hnew A n c e a ha; have h2 := hBb.lt; omega)
          clear hu2 h1b h2b hBb hbwb hu5 hb5 hmi hB5 hnew
          go_wp2
          go_roundg m
          case measure => omega
          case rel => exact ⟨S, _, by go_num, by omega, hu7, hset, hbw5.setCell (Nat.le_refl _) _, hfin.out⟩
end Go.Proofs.YtniffclplmgcfaaGreatDoor
