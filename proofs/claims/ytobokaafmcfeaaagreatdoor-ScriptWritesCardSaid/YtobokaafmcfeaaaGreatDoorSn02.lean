/- What the statement wants beyond its base. Conditions: none. -/
import Derived.Test.YtobokaafmcfeaaaGreatDoorSn01
namespace Go.Proofs.YtobokaafmcfeaaaGreatDoor
open Go.RowKit Go.Cal
/-- A byte, appended to a row of one's own: it lies where it lay, or in new memory. -/
theorem app_ownB {w : World} {base n s c1 : Nat} {x : UInt8} {v : Value} {xs : List UInt8} (ty : TypeId) (hown : w.ownsRow base 5 1 v n (lBv xs)) (hx : w.cell? ⟨s, 0, none⟩ = some (.int .u8 (x.toNat : Nat))) (hn : n ≤ 1000000) (hb : base ≤ w.heap.size) :
    ∃ A' n' c' w', (Builtin.append_ #[42, 42] ty #[v, .slice (some ⟨s, 0, none⟩) 1 c1]).run Tryz.prog w = .ok (.slice A' n' c') w' ∧ w'.ownsRow base 5 1 (.slice A' n' c') (n + 1) (lBv (xs ++ [x])) ∧ w.grownBy w' v.ownBlock ∧
      ((Value.slice A' n' c').ownBlock = v.ownBlock ∨ ∀ b, (Value.slice A' n' c').ownBlock = some b → w.heap.size ≤ b) := by
  obtain ⟨i0, hi, hi0, hi1, hi2⟩ := info_parts sinfo_byte
  have hnews : ∀ j u, ([.int .u8 (x.toNat : Nat)] : List Value)[j]? = some u → w.cell? ((⟨s, 0, none⟩ : Addr).add j) = some u := fun j u hj => by
    rcases j with _ | j
    · simp at hj
      subst hj
      simpa [Addr.add] using hx
    · simp at hj
  have hone : ∀ u ∈ ([.int .u8 (x.toNat : Nat)] : List Value), u.oneCell' = true := fun u hu => by
    simp at hu; subst hu; rfl
  have hap : lBv xs ++ [.int .u8 (x.toNat : Nat)] = lBv (xs ++ [x]) := by simp [lBv]
  have hsm : n + 1 ≤ maxLen := by unfold maxLen; omega
  obtain ⟨v', w', hrun, ho, hg, -⟩ := run_append_own (P := Tryz.prog) w base 42 ty 5 i0 (.int .u8 0) 1 1 sunder_bytes hi hi0 hi1 hi2 rfl (by decide) v n (lBv xs) hown ⟨s, 0, none⟩ 1 c1 [.int .u8 (x.toNat : Nat)] rfl hnews hone hsm (by omega) hb
  have hplace : v'.ownBlock = v.ownBlock ∨ ∀ b, v'.ownBlock = some b → w.heap.size ≤ b := by
    obtain ⟨hlen, hcase⟩ := hown
    rcases hcase with ⟨rfl, rfl⟩ | ⟨gg, cap, cur, rfl, hbg, hcur, hnc, hcm, hsz, htk⟩
    · obtain ⟨v2, w2, hrun2, ho2, -, -⟩ := run_append_own (P := Tryz.prog) w w.heap.size 42 ty 5 i0 (.int .u8 0) 1 1 sunder_bytes hi hi0 hi1 hi2 rfl (by decide) (.slice none 0 0) 0 [] (World.ownsRow_nil w _ _ _) ⟨s, 0, none⟩ 1 c1 [.int .u8 (x.toNat : Nat)] rfl hnews hone hsm (by omega) (Nat.le_refl _)
      rw [hrun] at hrun2
      injection hrun2 with e1 e2
      subst e1
      exact .inr fun b hb => (ho2.lt b hb).1
    · by_cases hroom : n + 1 ≤ cap
      · have hr := run_append_room (P := Tryz.prog) w 42 ty 5 i0 sunder_bytes hi gg n cap cur hcur ⟨s, 0, none⟩ 1 c1 [.int .u8 (x.toNat : Nat)] (by rw [hi1]; rfl) hnews hone hroom (by rw [hi1]; simp; omega)
        rw [hrun] at hr
        injection hr with e1 e2
        subst e1
        exact .inl rfl
      · obtain ⟨v2, w2, hrun2, ho2, -⟩ := run_append_arg_grows (P := Tryz.prog) w 42 ty 5 i0 (.int .u8 0) 1 1 sunder_bytes hi hi0 hi1 hi2 rfl (by decide) ⟨gg, 0, none⟩ n cap (lBv xs) hlen
          (fun j u hj => World.ownsRow.cells (h := ⟨hlen, .inr ⟨gg, cap, cur, rfl, hbg, hcur, hnc, hcm, hsz, htk⟩⟩) (g := gg) rfl j u hj) ⟨s, 0, none⟩ 1 c1 [.int .u8 (x.toNat : Nat)] rfl hnews (by omega) hsm (by omega)
        rw [hrun] at hrun2
        injection hrun2 with e1 e2
        subst e1
        exact .inr fun b hb => (ho2.lt b hb).1
  rw [hap] at ho
  have hsh := ho.2
  rcases hsh with ⟨rfl, -⟩ | ⟨gg, cap, cur, rfl, -⟩
  · exact ⟨_, _, _, w', hrun, ho, hg, hplace⟩
  · exact ⟨_, _, _, w', hrun, ho, hg, hplace⟩
theorem wpList_app1 {w : World} {ops : Array Oper} {rest : List Oper} {o : Oper} {a : Act} {Q : Exit → Act → World → Prop} {base n sb c1 : Nat} {x : UInt8} {v : Value} {xs : List UInt8} (hgd : o.guard = none) (s y : Operand)
    (hop : o.op = Op.call { callee := Callee.builtin Builtin.append, args := #[s, y], argTypes := #[42, 42] }) (hs : a.eval s = v) (hy : a.eval y = .slice (some ⟨sb, 0, none⟩) 1 c1)
    (hown : w.ownsRow base 5 1 v n (lBv xs)) (hx : w.cell? ⟨sb, 0, none⟩ = some (.int .u8 (x.toNat : Nat))) (hn : n ≤ 1000000) (hb : base ≤ w.heap.size)
    (hK : ∀ A' n' c' w', w'.ownsRow base 5 1 (.slice A' n' c') (n + 1) (lBv (xs ++ [x])) → w.grownBy w' v.ownBlock → ((Value.slice A' n' c').ownBlock = v.ownBlock ∨ ∀ b, (Value.slice A' n' c').ownBlock = some b → w.heap.size ≤ b) → wpList Tryz.prog ops Q rest (a.put o.dst (.slice A' n' c')) w') :
    wpList Tryz.prog ops Q (o :: rest) a w := by
  refine wpList_plain hgd fun K' hK' => ?_
  obtain ⟨A', n', c', w', hrun, r1, r2, r3⟩ := app_ownB (c1 := c1) o.type hown hx hn hb
  unfold Oper.wp
  simp [execOp, hop, resolve, invoke, builtin, hs, hy, hrun, Result.andThen]
  exact hK' _ _ (hK A' n' c' w' r1 r2 r3)
theorem below_grownO {W W2 : World} {B : Nat} {row : Option Nat} (hg : W.grownBy W2 row) (hb : ∀ b, row = some b → B ≤ b) (hB : B ≤ W.heap.size) : Below B W W2 :=
  ⟨hg.os, hg.tape, hg.output, hg.size, fun k hk => hg.block k (Nat.lt_of_lt_of_le hk hB) (fun e => by have := hb k e.symm; omega)⟩
theorem blk_grownO {W W2 : World} {k : Nat} {row : Option Nat} {cs : Array Value} {t : TypeId} (h : pBlk k cs t W) (hg : W.grownBy W2 row) (hne : row ≠ some k) : pBlk k cs t W2 := by
  have hlt := h.lt
  unfold pBlk at *
  rw [hg.block k hlt (Ne.symm hne)]
  exact h
theorem ownB_made {w : World} {base : Nat} (x : UInt8) (v : Value) (hv : v = .int .u8 (x.toNat : Nat)) (hb : base ≤ w.heap.size) : (w.alloc (.cells #[v] 5)).ownsRow base 5 1 (.slice (some ⟨w.heap.size, 0, none⟩) 1 1) 1 (lBv [x]) := by
  subst hv
  exact ⟨by simp [lBv], .inr ⟨w.heap.size, 1, #[.int .u8 (x.toNat : Nat)], rfl, hb, heap_alloc_new w _, Nat.le_refl _, by decide, rfl, by simp [lBv]⟩⟩
theorem read_ownB {w : World} {base n : Nat} {v : Value} {xs : List UInt8} (h : w.ownsRow base 5 1 v n (lBv xs)) (hn : n = xs.length) : ∃ A c, v = .slice A xs.length c ∧ RdB w w.heap.size A xs ∧ xs.length ≤ c ∧ c ≤ maxLen ∧ (A = none → c = 0) ∧ ∀ b, v.ownBlock = some b → base ≤ b := by
  subst hn
  obtain ⟨_, ⟨rfl, h1⟩ | ⟨g, cap, cur, rfl, hg, hw, hn, hm, hs, ht⟩⟩ := h
  · obtain rfl := List.eq_nil_of_length_eq_zero h1
    exact ⟨none, 0, rfl, ⟨.inl rfl, fun _ _ _ i hi => by simp at hi⟩, Nat.le_refl _, by unfold maxLen; omega, fun _ => rfl, fun b e => by cases e⟩
  · have hlt := (Array.getElem?_eq_some_iff.1 hw).1
    refine ⟨_, cap, rfl, ⟨.inr ⟨g, 0, rfl, hlt⟩, fun b off e j hj => ?_⟩, hn, hm, fun e => (by cases e), fun b e => by cases e; exact hg⟩
    injection e with e
    injection e with e1 e2
    subst e1; subst e2
    have e3 : cur.toList[j]? = some (.int .u8 (((xs.getD j 0).toNat : Nat) : Int)) := by
      rw [← lBv_get hj, ← ht, List.getElem?_take_of_lt (by omega)]
    simp [World.cell?, hw, ← Array.getElem?_toList, e3]
end Go.Proofs.YtobokaafmcfeaaaGreatDoor
namespace Go.Proofs.YtobokaafmcfeaaaGreatDoor
open Go.RowKit Go.Cal
/-- Bytes of one's own are told. -/
def TellsB (w : World) (l : List UInt8) (e : Ending) (w' : World) : Prop :=
  ∃ A c, e = .returned (.tuple #[.slice A l.length c, .int .i64 0]) ∧ w'.ownsRow w.heap.size 5 1 (.slice A l.length c) l.length (lBv l) ∧ Below w.heap.size w w'
theorem fits_y {id : Int} {p : Nat} (h1 : 1 ≤ id) (h4 : id ≤ 4) (hp : p < 256 ^ ((fW id).toNat / 8)) (W : World) (hW : VaW W) : Calls Tryz.prog 91 #[.int .i64 id, .int .u64 (p : Nat)] W fun e w' => e = .returned (.int .i64 0) ∧ Below W.heap.size W w' := by
  have hb := posit_bytes h1 h4
  have h64 : (fW id).toNat ≤ 64 := by obtain ⟨-, -, -, -, s5⟩ := quS_bnd h1 h4; exact s5
  have hp2 : p < 2 ^ (fW id).toNat := by
    rw [show (256 : Nat) = 2 ^ 8 by decide, ← Nat.pow_mul, hb] at hp
    exact hp
  have hlt : p < 18446744073709551616 := Nat.lt_of_lt_of_le hp2 (by
    rw [show (18446744073709551616 : Nat) = 2 ^ 64 by decide]
    exact Nat.pow_le_pow_right (by decide) h64)
  have hf : fitsV id (p : Int) = 0 := by
    unfold fitsV
    rw [if_neg (by omega), if_pos (by exact_mod_cast hp2)]
  have h := fo_fits id (p : Int) W hW.frm (by omega) (by omega)
  rw [hf] at h
  exact h
theorem byte_val (x t : Nat) : (x : Int) / 2 ^ (8 * t) % 256 = (((UInt8.ofNat (x / 256 ^ t % 256)).toNat : Nat) : Int) := by
  have h : (UInt8.ofNat (x / 256 ^ t % 256)).toNat = x / 256 ^ t % 256 := by simp
  rw [h, show (256 : Nat) ^ t = 2 ^ (8 * t) by rw [Nat.pow_mul]]
  rw [Int.natCast_emod, Int.natCast_ediv, Int.natCast_pow]
  rfl
theorem be_app {l : List UInt8} {k x j : Nat} (h : j < k) : l ++ (beB k x).take j ++ [UInt8.ofNat (x / 256 ^ (k - 1 - j) % 256)] = l ++ (beB k x).take (j + 1) := by
  rw [List.append_assoc, List.take_add_one, beB_at k x j h]
  rfl
set_option maxRecDepth 100000 in
set_option maxHeartbeats 4000000 in
theorem wr_add {id : Int} {w : World} {x y : Nat} (h1 : 1 ≤ id) (h4 : id ≤ 4) (hW : VaW w) (hx : x < 256 ^ ((fW id).toNat / 8)) (hy : y < 256 ^ ((fW id).toNat / 8)) : Calls Tryz.prog 29 #[.int .i64 id, .int .i64 1, .int .u64 (x : Nat), .int .u64 (y : Nat), .string ⟨#[]⟩] w (TellsB w (wrB id 1 x y)) := by
  have hftx := Lib.hid fun (W : World) (hW : VaW W) => fits_y h1 h4 hx W hW
  have hfty := Lib.hid fun (W : World) (hW : VaW W) => fits_y h1 h4 hy W hW
  have hof := Lib.hid (sof_yes id h1 h4 w hW)
  go_enter Tryz.func29, Tryz.ntmps29
  go_wp2_with fail
  refine hof.out.mono ?_
  rintro e w1 ⟨rfl, hb1⟩
  have pF := pBlk_made w1 #[.int .i64 (fK id), .int .i64 (fW id), .int .i64 (fM id), .int .i64 (fB id), .int .u64 (fT id), .int .u64 (fI id), .int .u64 (fN id)] 67
  have hB1 := hb1.trans (((Below.refl w1.heap.size w1).alloc (Nat.le_refl _) (.cells #[.int .i64 (fK id), .int .i64 (fW id), .int .i64 (fM id), .int .i64 (fB id), .int .u64 (fT id), .int .u64 (fI id), .int .u64 (fN id)] 67)).mono hb1.size)
  have cF := pF.cell 1 _ rfl
  have hFl := pF.lt
  clear hb1 hof
  go_wp2_with fail
  refine (hftx.out _ (hW.below hB1)).mono ?_
  rintro e w2 ⟨rfl, hb2⟩
  have hB2 := hB1.trans (hb2.mono hB1.size)
  go_wp2_with fail
  refine (hfty.out _ (hW.below hB2)).mono ?_
  rintro e w3 ⟨rfl, hb3⟩
  have hB3 := hB2.trans (hb3.mono hB2.size)
  have ho := ownB_made (base := w.heap.size) (w := w3) 1 (.int .u8 1) rfl hB3.size
  have hal4 := (((Below.refl w3.heap.size w3).alloc (Nat.le_refl _) (.cells #[.int .u8 1] 5))).alloc (by simp) (.cells #[.int .u64 (x : Nat), .int .u64 (y : Nat)] 22)
  have hB4 := hB3.trans (hal4.mono hB3.size)
  have ho4 := ho.alloc (.cells #[.int .u64 (x : Nat), .int .u64 (y : Nat)] 22)
  have pXY := pBlk_madeR (w3.alloc (.cells #[.int .u8 1] 5)) #[.int .u64 (x : Nat), .int .u64 (y : Nat)] 22 (w3.heap.size + 1) (by simp)
  have pF4 := pBlk_st _ _ _ _ _ (pBlk_st _ _ _ _ _ (pBlk_st _ _ _ _ _ pF hb2) hb3) hal4
  have hp8 := posit_bytes h1 h4
  obtain ⟨w1', w2', w3', w4', w5', -⟩ := fo_wide h1 (show id < 15 by omega)
  have hk8 : (fW id).toNat / 8 ≤ 8 := by obtain ⟨-, -, -, -, s5⟩ := quS_bnd h1 h4; omega
  obtain ⟨k, hk⟩ : ∃ k, (fW id).toNat / 8 = k := ⟨_, rfl⟩
  have hfw : fW id = 8 * (k : Int) := by omega
  have hend : Hid (wrB id 1 x y = [1] ++ beB k x ++ beB k y) := by
    show _ = _
    unfold wrB
    rw [if_pos (by decide), hk]
    rfl
  rw [hk] at hk8 hx hy
  rw [hfw] at pF4
  have hx64 : x < 18446744073709551616 := Nat.lt_of_lt_of_le hx (Nat.le_trans (Nat.pow_le_pow_right (by decide) hk8) (by decide))
  have hy64 : y < 18446744073709551616 := Nat.lt_of_lt_of_le hy (Nat.le_trans (Nat.pow_le_pow_right (by decide) hk8) (by decide))
  have hFl3 := Nat.lt_of_lt_of_le hFl hb2.size
  have hb3s := hb3.size
  clear hk hp8 w1' w2' w3' w4' w5' hx hy hftx hfty cF hFl pF hb2 hb3 hB1 hB2 hal4 ho hW h1 h4 hfw hB3
  go_wp2_with fail
  obtain ⟨W4, hW4⟩ : ∃ W4, (w3.alloc (.cells #[.int .u8 1] 5)).alloc (.cells #[.int .u64 (x : Nat), .int .u64 (y : Nat)] 22) = W4 := ⟨_, rfl⟩
  rw [hW4] at hB4 ho4 pXY pF4 ⊢
  clear hW4
  have hsF : w1.heap.size < w3.heap.size := Nat.lt_of_lt_of_le hFl3 hb3s
  obtain ⟨sX, hsX⟩ : ∃ s, w3.heap.size + 1 = s := ⟨_, rfl⟩
  obtain ⟨sF, hsFe⟩ : ∃ s, w1.heap.size = s := ⟨_, rfl⟩
  have hpl4 : ∀ b, (Value.slice (some ⟨w3.heap.size, 0, none⟩) 1 1).ownBlock = some b → b ≠ sX ∧ b ≠ sF := fun b hb => by
    simp [Value.ownBlock] at hb
    omega
  rw [hsX] at pXY ⊢
  rw [hsFe] at pF4 ⊢
  clear hsX hsFe hsF
  refine wp_loop_rounds 3 ?_
  rw [rounds_succ]
  have c0 := pXY.cell 0 _ rfl
  have cF := pF4.cell 1 _ rfl
  have hXl := pXY.lt
  have hFl := pF4.lt
  have hwr8 : IntKind.i64.wrap (8 * (k : Int) - 8) = 8 * (k : Int) - 8 := by rw [IntKind.wrap_i64]; omega
  go_wp2_with fail
  go_loopg [15, 18] k (fun m pb pi wr => ∃ (j : Nat) (A' : Option Addr) (n' c' : Nat), pb = .slice A' n' c' ∧ pi = .int .i64 (8 * (k : Int) - 8 - 8 * (j : Int)) ∧ j + m = k ∧ wr.ownsRow w.heap.size 5 1 (.slice A' n' c') (1 + j) (lBv (([1] : List UInt8) ++ (beB k x).take j)) ∧ Below w.heap.size w wr ∧ pBlk sX #[.int .u64 (x : Nat), .int .u64 (y : Nat)] 22 wr ∧ pBlk sF #[.int .i64 (fK id), .int .i64 (8 * (k : Int)), .int .i64 (fM id), .int .i64 (fB id), .int .u64 (fT id), .int .u64 (fI id), .int .u64 (fN id)] 67 wr ∧ ∀ b, (Value.slice A' n' c').ownBlock = some b → b ≠ sX ∧ b ≠ sF)
  case atStart => exact ⟨0, _, _, _, rfl, by simp, by omega, by simpa using ho4, hB4, pXY, pF4, hpl4⟩
  case round =>
    clear pXY pF4 ho4 hB4 hpl4 c0 cF hXl hFl
    obtain ⟨j, A', n', c', rfl, rfl, hjm, hob, hBr, pX, pFr, hpl⟩ := hrel
    by_cases hjk : j < k
    · obtain ⟨t, ht⟩ : ∃ t : Nat, k - 1 - j = t := ⟨_, rfl⟩
      have hz : 8 * (k : Int) - 8 - 8 * (j : Int) = ((8 * t : Nat) : Int) := by omega
      rw [hz]
      have hnn : (0 : Int) ≤ ((8 * t : Nat) : Int) := by omega
      have hcv := byte_val x t
      have hbe := be_app (l := ([1] : List UInt8)) (x := x) hjk
      rw [ht] at hbe
      obtain ⟨c, hc⟩ : ∃ c, UInt8.ofNat (x / 256 ^ t % 256) = c := ⟨_, rfl⟩
      rw [hc] at hcv hbe
      have hal := (Below.refl wr.heap.size wr).alloc (Nat.le_refl _) (.cells #[.int .u8 (c.toNat : Nat)] 5)
      have hBa := hBr.trans (hal.mono hBr.size)
      have pXa := pBlk_st _ _ _ _ _ pX hal
      have pFa := pBlk_st _ _ _ _ _ pFr hal
      have hca := (pBlk_made wr #[.int .u8 (c.toNat : Nat)] 5).cell 0 _ rfl
      have hoa := hob.alloc (.cells #[.int .u8 (c.toNat : Nat)] 5)
      have hwt : IntKind.i64.wrap (((8 * t : Nat) : Int) - 8) = ((8 * t : Nat) : Int) - 8 := by rw [IntKind.wrap_i64]; omega
      replace hbe := Lib.hid hbe
      clear hc
      go_wp2_with (at_builtin; refine wpList_app1 rfl _ _ rfl rfl rfl hoa hca (by omega) hBa.size ?_; intro A2 n2 c2 w' ho' hg' hp')
      have hBw := hBa.trans (below_grownO hg' (fun b hb => (hoa.lt b hb).1) hBa.size)
      have pXw := blk_grownO pXa hg' (fun e => (hpl _ e).1 rfl)
      have pFw := blk_grownO pFa hg' (fun e => (hpl _ e).2 rfl)
      rw [hbe.out] at ho'
      have hpw : ∀ b, (Value.slice A2 n2 c2).ownBlock = some b → b ≠ sX ∧ b ≠ sF := fun b hb => by
        rcases hp' with hp' | hp'
        · rw [hp'] at hb; exact hpl b hb
        · have h9 := hp' b hb
          have l1 := pXa.lt
          have l2 := pFa.lt
          omega
      clear hg' hp' hoa hca hal hBa pXa pFa hbe
      go_roundg (gk - 1)
      case measure => omega
      case rel => exact ⟨j + 1, A2, n2, c2, rfl, by simp; omega, by omega, by rw [show 1 + (j + 1) = 1 + j + 1 by omega]; exact ho', hBw, pXw, pFw, hpw⟩
    · have hjk0 : k = j := by omega
      subst hjk0
      have hz : 8 * (k : Int) - 8 - 8 * (k : Int) = -8 := by omega
      rw [hz]
      have hobk : wr.ownsRow w.heap.size 5 1 (.slice A' n' c') (1 + k) (lBv (([1] : List UInt8) ++ beB k x)) := by rw [List.take_of_length_le (by rw [beB_len]; omega)] at hob; exact hob
      have cX0 := pX.cell 0 _ rfl
      have cX1 := pX.cell 1 _ rfl
      have cFr := pFr.cell 1 _ rfl
      have hXl := pX.lt
      have hFl := pFr.lt
      clear hob hjk hz
      go_wp2_with fail
      rw [rounds_succ]
      go_wp2_with fail
      have c0 := pX.cell 1 _ rfl
      have cF := pFr.cell 1 _ rfl
      have hXl := pX.lt
      have hFl := pFr.lt
      have hwr8 : IntKind.i64.wrap (8 * (k : Int) - 8) = 8 * (k : Int) - 8 := by rw [IntKind.wrap_i64]; omega
      go_wp2_with fail
      go_loopg [15, 18] k (fun m pb pi wr => ∃ (j : Nat) (A' : Option Addr) (n' c' : Nat), pb = .slice A' n' c' ∧ pi = .int .i64 (8 * (k : Int) - 8 - 8 * (j : Int)) ∧ j + m = k ∧ wr.ownsRow w.heap.size 5 1 (.slice A' n' c') ((1 + k) + j) (lBv ((([1] : List UInt8) ++ beB k x) ++ (beB k y).take j)) ∧ Below w.heap.size w wr ∧ pBlk sX #[.int .u64 (x : Nat), .int .u64 (y : Nat)] 22 wr ∧ pBlk sF #[.int .i64 (fK id), .int .i64 (8 * (k : Int)), .int .i64 (fM id), .int .i64 (fB id), .int .u64 (fT id), .int .u64 (fI id), .int .u64 (fN id)] 67 wr ∧ ∀ b, (Value.slice A' n' c').ownBlock = some b → b ≠ sX ∧ b ≠ sF)
      case atStart => exact ⟨0, _, _, _, rfl, by simp, by omega, by simpa using hobk, hBr, pX, pFr, hpl⟩
      case round =>
        clear pX pFr hobk hBr hpl c0 cF hXl hFl
        obtain ⟨j, A', n', c', rfl, rfl, hjm, hob, hBr, pX, pFr, hpl⟩ := hrel
        by_cases hjk : j < k
        · obtain ⟨t, ht⟩ : ∃ t : Nat, k - 1 - j = t := ⟨_, rfl⟩
          have hz : 8 * (k : Int) - 8 - 8 * (j : Int) = ((8 * t : Nat) : Int) := by omega
          rw [hz]
          have hnn : (0 : Int) ≤ ((8 * t : Nat) : Int) := by omega
          have hcv := byte_val y t
          have hbe := be_app (l := (([1] : List UInt8) ++ beB k x)) (x := y) hjk
          rw [ht] at hbe
          obtain ⟨c, hc⟩ : ∃ c, UInt8.ofNat (y / 256 ^ t % 256) = c := ⟨_, rfl⟩
          rw [hc] at hcv hbe
          have hal := (Below.refl wr.heap.size wr).alloc (Nat.le_refl _) (.cells #[.int .u8 (c.toNat : Nat)] 5)
          have hBa := hBr.trans (hal.mono hBr.size)
          have pXa := pBlk_st _ _ _ _ _ pX hal
          have pFa := pBlk_st _ _ _ _ _ pFr hal
          have hca := (pBlk_made wr #[.int .u8 (c.toNat : Nat)] 5).cell 0 _ rfl
          have hoa := hob.alloc (.cells #[.int .u8 (c.toNat : Nat)] 5)
          have hwt : IntKind.i64.wrap (((8 * t : Nat) : Int) - 8) = ((8 * t : Nat) : Int) - 8 := by rw [IntKind.wrap_i64]; omega
          replace hbe := Lib.hid hbe
          clear hc
          go_wp2_with (at_builtin; refine wpList_app1 rfl _ _ rfl rfl rfl hoa hca (by omega) hBa.size ?_; intro A2 n2 c2 w' ho' hg' hp')
          have hBw := hBa.trans (below_grownO hg' (fun b hb => (hoa.lt b hb).1) hBa.size)
          have pXw := blk_grownO pXa hg' (fun e => (hpl _ e).1 rfl)
          have pFw := blk_grownO pFa hg' (fun e => (hpl _ e).2 rfl)
          rw [hbe.out] at ho'
          have hpw : ∀ b, (Value.slice A2 n2 c2).ownBlock = some b → b ≠ sX ∧ b ≠ sF := fun b hb => by
            rcases hp' with hp' | hp'
            · rw [hp'] at hb; exact hpl b hb
            · have h9 := hp' b hb
              have l1 := pXa.lt
              have l2 := pFa.lt
              omega
          clear hg' hp' hoa hca hal hBa pXa pFa hbe
          go_roundg (gk - 1)
          case measure => omega
          case rel => exact ⟨j + 1, A2, n2, c2, rfl, by simp; omega, by omega, by rw [show (1 + k) + (j + 1) = (1 + k) + j + 1 by omega]; exact ho', hBw, pXw, pFw, hpw⟩
        · have hjk0 : k = j := by omega
          subst hjk0
          have hz : 8 * (k : Int) - 8 - 8 * (k : Int) = -8 := by omega
          rw [hz]
          have hobk : wr.ownsRow w.heap.size 5 1 (.slice A' n' c') ((1 + k) + k) (lBv ((([1] : List UInt8) ++ beB k x) ++ beB k y)) := by rw [List.take_of_length_le (by rw [beB_len]; omega)] at hob; exact hob
          have cX0 := pX.cell 0 _ rfl
          have cX1 := pX.cell 1 _ rfl
          have cFr := pFr.cell 1 _ rfl
          have hXl := pX.lt
          have hFl := pFr.lt
          clear hob hjk hz
          go_wp2_with fail
          rw [rounds_succ]
          go_wp2_with fail
          have hl : (wrB id 1 x y).length = 1 + k + k := by rw [hend.out]; simp [beB_len]; omega
          have hn9 : n' = 1 + k + k := by
            obtain ⟨A9, c9, e9, -⟩ := read_ownB hobk (by simp [beB_len]; omega)
            injection e9 with _ e2 _
            rw [e2]
            simp [beB_len]
            omega
          subst hn9
          go_ret2
          exact ⟨A', c', by rw [hl]; rfl, by rw [hl, hend.out]; exact hobk, hBr⟩
end Go.Proofs.YtobokaafmcfeaaaGreatDoor
namespace Go.Proofs.YtobokaafmcfeaaaGreatDoor
open Go.RowKit Go.Cal
theorem lit_byA (w : World) (s : Nat) (hs : w.heap.size = s) (l : List UInt8) (cs : Array Value) (n : Nat) (hcs : cs = (lBv l).toArray) (hn : l.length = n) (hf : n ≤ 1000000) : ByA (w.alloc (.cells cs 5)) (some ⟨s, 0, none⟩) n n l := by
  subst hs
  exact ⟨hn, Nat.le_refl _, by unfold maxLen; omega, hf, (ownB_lit w w.heap.size l 0 0 cs hcs (Nat.le_refl _) (by unfold maxLen; omega) (.inr rfl)).rd⟩
theorem wr_bytes : wrB 2 1 16384 1 = [1, 64, 0, 0, 1] := by decide +kernel
def pU (A : Option Addr) (l : List Nat) (w : World) : Prop := RdU w w.heap.size A l
theorem pU_st (A : Option Addr) (l : List Nat) : Stable (pU A l) := fun _ _ h hb => RdU.more (h.below hb) hb.size
theorem run_told {w w' : World} {R : ScR} {e : Ending} {er us : Int} {k : Nat} {O : List Nat} (h : RunTells w R e w') (h1 : ((R.err : Nat) : Int) = er) (h2 : ((R.used : Nat) : Int) = us) (h3 : R.O = O) (h4 : O.length = k) :
    ∃ (A1 A2 : Option Addr) (n1 c1 c2 : Nat), e = .returned (.tuple #[.agg #[.slice A1 n1 c1, .slice A2 k c2], .int .i64 us, .int .i64 er]) ∧ IsT w' (.slice A1 n1 c1) 16 R.X ∧ k ≤ c2 ∧ RdU w' w'.heap.size A2 O ∧ Below w.heap.size w w' := by
  subst h1; subst h2; subst h3; subst h4
  exact h
theorem run1_any {w : World} {B : Option Addr} {n c : Nat} (Y : ByA w B n c [1, 64, 72, 4, 5, 3, 48, 46, 53, 3, 4]) (hW : VaW w) : Calls Tryz.prog 37 #[.int .i64 1, .slice B n c] w fun e w' =>
    ∃ (A1 A2 : Option Addr) (n1 c1 c2 : Nat), e = .returned (.tuple #[.agg #[.slice A1 n1 c1, .slice A2 2 c2], .int .i64 11, .int .i64 0]) ∧ RdU w' w'.heap.size A2 [72, 200] ∧ Below w.heap.size w w' := by
  have h := run_yes (id := 1) (by decide) (by decide) hW Y
  have e1 : (runP 1 1000 0 [] [1, 64, 72, 4, 5, 3, 48, 46, 53, 3, 4]).err = 0 := by rw [shown_run]
  have e2 : (runP 1 1000 0 [] [1, 64, 72, 4, 5, 3, 48, 46, 53, 3, 4]).used = 11 := by rw [shown_run]
  have e3 : (runP 1 1000 0 [] [1, 64, 72, 4, 5, 3, 48, 46, 53, 3, 4]).O = [72, 200] := by rw [shown_run]
  generalize runP 1 1000 0 [] [1, 64, 72, 4, 5, 3, 48, 46, 53, 3, 4] = R at h e1 e2 e3
  refine h.mono fun e w' hh => ?_
  obtain ⟨A1, A2, n1, c1, c2, he, -, -, hr, hb⟩ := run_told hh (by rw [e1]; rfl : _ = (0 : Int)) (by rw [e2]; rfl : _ = (11 : Int)) e3 (rfl : _ = 2)
  exact ⟨A1, A2, n1, c1, c2, he, hr, hb⟩
theorem run2_any {w : World} {B : Option Addr} {n c : Nat} (Y : ByA w B n c [4, 9]) (hW : VaW w) : Calls Tryz.prog 37 #[.int .i64 1, .slice B n c] w fun e w' =>
    ∃ (A1 A2 : Option Addr) (n1 c1 c2 : Nat), e = .returned (.tuple #[.agg #[.slice A1 n1 c1, .slice A2 1 c2], .int .i64 1, .int .i64 1]) ∧ RdU w' w'.heap.size A2 [0] ∧ Below w.heap.size w w' := by
  have h := run_yes (id := 1) (by decide) (by decide) hW Y
  have e1 : (runP 1 1000 0 [] [4, 9]).err = 1 := by rw [shown_run2]
  have e2 : (runP 1 1000 0 [] [4, 9]).used = 1 := by rw [shown_run2]
  have e3 : (runP 1 1000 0 [] [4, 9]).O = [0] := by rw [shown_run2]
  generalize runP 1 1000 0 [] [4, 9] = R at h e1 e2 e3
  refine h.mono fun e w' hh => ?_
  obtain ⟨A1, A2, n1, c1, c2, he, -, -, hr, hb⟩ := run_told hh (by rw [e1]; rfl : _ = (1 : Int)) (by rw [e2]; rfl : _ = (1 : Int)) e3 (rfl : _ = 1)
  exact ⟨A1, A2, n1, c1, c2, he, hr, hb⟩
set_option maxRecDepth 100000 in
set_option maxHeartbeats 4000000 in
theorem shown19_any (w : World) (hW : VaW w) : Calls Tryz.prog 28 #[] w fun e w' => e = .returned (.bool true) ∧ Below w.heap.size w w' := by
  have hr1 := Lib.hid fun (W : World) (B : Option Addr) (n c : Nat) (hb : Below w.heap.size w W) (Y : ByA W B n c [1, 64, 72, 4, 5, 3, 48, 46, 53, 3, 4]) => run1_any Y (hW.below hb)
  have hr2 := Lib.hid fun (W : World) (B : Option Addr) (n c : Nat) (hb : Below w.heap.size w W) (Y : ByA W B n c [4, 9]) => run2_any Y (hW.below hb)
  have hfm := Lib.hid fun (W : World) (hb : Below w.heap.size w W) => run_form 10 (by decide) (.slice none 0 0) W (hW.below hb)
  have hwr := Lib.hid fun (W : World) (hb : Below w.heap.size w W) => wr_add (id := 2) (x := 16384) (y := 1) (by decide) (by decide) (hW.below hb) (by decide +kernel) (by decide +kernel)
  rw [wr_bytes] at hwr
  clear hW
  have hb0 := (Below.refl w.heap.size w).alloc (Nat.le_refl _) (.cells #[.int .u8 1, .int .u8 64, .int .u8 72, .int .u8 4, .int .u8 5, .int .u8 3, .int .u8 48, .int .u8 46, .int .u8 53, .int .u8 3, .int .u8 4] 5)
  have hY := lit_byA w w.heap.size rfl [1, 64, 72, 4, 5, 3, 48, 46, 53, 3, 4] #[.int .u8 1, .int .u8 64, .int .u8 72, .int .u8 4, .int .u8 5, .int .u8 3, .int .u8 48, .int .u8 46, .int .u8 53, .int .u8 3, .int .u8 4] 11 rfl rfl (by decide)
  have hc1 := Lib.hid (hr1.out _ _ _ _ hb0 hY)
  clear hY hr1
  go_enter Tryz.func28, Tryz.ntmps28
  go_wp2_with fail
  refine hc1.out.mono ?_
  rintro e w1 ⟨A1, B1, n1, c1, d1, rfl, hrd1, hb1⟩
  have hL := (((LiveP.start w).go hb0).go hb1).put (pU_st B1 [72, 200]) hrd1
  clear hb0 hb1 hrd1 hc1
  replace hL := (hL.go ((Below.refl _ _).alloc (Nat.le_refl _) (.cells #[.slice A1 n1 c1, .slice B1 2 d1] 57))).put (pBlk_st _ _ _) (pBlk_made w1 #[.slice A1 n1 c1, .slice B1 2 d1] 57)
  have hY2 := lit_byA (w1.alloc (.cells #[.slice A1 n1 c1, .slice B1 2 d1] 57)) (w1.heap.size + 1) (by simp) [4, 9] #[.int .u8 4, .int .u8 9] 2 rfl rfl (by decide)
  have hL2 := hL.go ((Below.refl _ _).alloc (Nat.le_refl _) (.cells #[.int .u8 4, .int .u8 9] 5))
  have hc2 := Lib.hid (hr2.out _ _ _ _ hL2.below hY2)
  clear hY2 hr2 hL
  go_wp2_with fail
  refine hc2.out.mono ?_
  rintro e w2 ⟨A2, B2, n2, c2, d2, rfl, hrd2, hb2⟩
  have hL3 := ((hL2.go hb2).go ((Below.refl _ _).alloc (Nat.le_refl _) (.cells #[.slice A2 n2 c2, .slice B2 1 d2] 57)))
  have hc3 := Lib.hid (hfm.out _ hL3.below)
  clear hL2 hb2 hrd2 hfm hc2
  go_wp2_with fail
  refine hc3.out.mono ?_
  rintro e w3 ⟨rfl, hb3⟩
  have hL4 := ((hL3.go hb3).go ((Below.refl _ _).alloc (Nat.le_refl _) (.cells #[.slice none 0 0, .slice none 0 0] 57)))
  have hc4 := Lib.hid (hwr.out _ hL4.below)
  clear hL3 hb3 hc3 hwr
  go_wp2_with fail
  refine hc4.out.mono ?_
  rintro e w4 ⟨A4, c4, rfl, ho4, hb4⟩
  obtain ⟨A5, c5, e5, hr4, -⟩ := read_ownB ho4 rfl
  injection e5 with e51 e52 e53
  subst e51; subst e53
  have hL5 := hL4.go hb4
  have hcv : (convert 42 9 (.slice A4 5 c4)).run Tryz.prog w4 = .ok (.string ⟨#[1, 64, 0, 0, 1]⟩) w4 := conv_bytes c4 hr4
  clear hL4 hb4 hc4 ho4 hr4
  obtain ⟨s1, hs1⟩ : ∃ s, w1.heap.size = s := ⟨_, rfl⟩
  rw [hs1] at hL5
  have pr := hL5.get (P := pBlk s1 #[.slice A1 n1 c1, .slice B1 2 d1] 57) (by repeat (first | exact List.mem_cons_self | apply List.mem_cons_of_mem))
  have x1 := pr.cell 1 _ rfl
  have xl := pr.lt
  have hu := hL5.get (P := pU B1 [72, 200]) (by repeat (first | exact List.mem_cons_self | apply List.mem_cons_of_mem))
  obtain ⟨b, off, hB, hbl⟩ := hu.place.resolve_left (by simp)
  subst hB
  have y0 := hu.cells b off rfl 0 (by decide)
  have y1 := hu.cells b off rfl 1 (by decide)
  simp only [List.getD_cons_zero, List.getD_cons_succ, Nat.add_zero] at y0 y1
  have hbf := hL5.below
  clear hL5 hu pr
  go_wp2
  go_ret
  exact ⟨rfl, hbf⟩
end Go.Proofs.YtobokaafmcfeaaaGreatDoor
namespace Go.Proofs.YtobokaafmcfeaaaGreatDoor
open Go.RowKit Go.Cal
set_option maxRecDepth 100000 in
set_option maxHeartbeats 2000000 in
theorem words_yes {w : World} {A A' : Option Addr} {n c c' : Nat} {xs : List Nat} (h1 : RdU w w.heap.size A xs) (h2 : RdU w w.heap.size A' xs) (hn : xs.length = n) (hm : n ≤ 1000000) :
    Calls Tryz.prog 38 #[.slice A n c, .slice A' n c'] w fun e w' => e = .returned (.bool true) ∧ ∃ m, w' = w.drewN m := by
  go_enter Tryz.func38, Tryz.ntmps38
  go_wp2_with fail
  go_loopg [5] n (fun g pi wr => ∃ i j : Nat, pi = .int .i64 (i : Nat) ∧ i + g = n ∧ wr = w.drewN j)
  case atStart => exact ⟨0, 0, rfl, by omega, rfl⟩
  case round =>
    obtain ⟨i, j, rfl, hig, hwr⟩ := hrel
    have hBr : Below w.heap.size w wr := by rw [hwr]; exact below_drewN w j
    by_cases hlt : i < n
    · have hl1 : (i : Int) < (n : Int) := by omega
      have hn0 : xs ≠ [] := by rintro rfl; simp at hn; omega
      obtain ⟨b, off, rfl, hb⟩ := h1.place.resolve_left hn0
      obtain ⟨b', off', rfl, hb'⟩ := h2.place.resolve_left hn0
      have y1 := (hBr.cell (p := ⟨b, off + i, none⟩) hb).trans (h1.cells b off rfl i (by omega))
      have y2 := (hBr.cell (p := ⟨b', off' + i, none⟩) hb').trans (h2.cells b' off' rfl i (by omega))
      clear hBr
      replace hwr := Lib.hid hwr
      go_wp2_with fail
      go_quiet (fail)
      have hw2 : wr.drewN nq = w.drewN (j + nq) := by rw [hwr.out, World.drewN_drewN]
      go_wp2
      go_roundg (gk - 1)
      case measure => omega
      case rel => exact ⟨i + 1, j + nq, by simp, by omega, rfl⟩
    · have hl1 : ¬ (i : Int) < (n : Int) := by omega
      go_wp2
      go_ret
      exact ⟨rfl, j, rfl⟩
theorem slice_headU (A : Option Addr) (n c : Nat) (k : Int) (w : World) (h0 : 0 ≤ k) (h1 : k ≤ c) : (Instr.slice 32 (.slice A n c) none (some (.int .i64 k)) none).run Tryz.prog w = .ok (.slice A k.toNat c) w := by
  have hu : Tryz.prog.underlying 32 = some (.slice (Tryz.prog.elem 32)) := by kernel_rfl
  have ha : ∀ a : Addr, a.add 0 = a := fun a => by cases a; unfold Addr.add; split <;> simp_all
  rw [run_slice_h _ _ _ _ _ hu .i64 k h0 h1]
  obtain ⟨i, hi, hz0, hz1, hz2⟩ := info_parts info_u64
  have he : Tryz.prog.elem 32 = 22 := by kernel_rfl
  have hs : (sizeOf (Tryz.prog.elem 32)).run Tryz.prog w = .ok 1 w := by
    rw [he]; simp [sizeOf, typeInfo, hi, hz1]
  rw [hs]
  simp [Result.andThen, sliced, ha]
/-- What is told of the beginning of a script. -/
theorem cut_told {id : Int} {l : List UInt8} {t : Nat} (h : (runP id 1000 0 [] l).err = 0) (ht : t ≤ l.length) :
    (((runP id 1000 0 [] (l.take t)).err = 0 ∧ (runP id 1000 0 [] (l.take t)).used = t) ∨ (runP id 1000 0 [] (l.take t)).err = 2 ∧ (runP id 1000 0 [] (l.take t)).used < t) ∧ (runP id 1000 0 [] (l.take t)).O.length ≤ (runP id 1000 0 [] l).O.length ∧
    (runP id 1000 0 [] (l.take t)).O = (runP id 1000 0 [] l).O.take (runP id 1000 0 [] (l.take t)).O.length ∧ (runP id 1000 0 [] l).O.length ≤ 1000 := by
  obtain ⟨e1, m, e2⟩ := run_cut id 1000 0 [] l t h ht
  obtain ⟨m0, e0, e3⟩ := run_outs id 1000 0 [] l
  refine ⟨?_, by rw [e2]; simp, by rw [e2]; simp, by rw [e0]; simpa using e3⟩
  rcases e1 with e1 | e1
  · refine .inl ⟨e1, ?_⟩
    rw [(run_used id 1000 0 [] (l.take t)).2 e1, List.length_take]
    omega
  · exact .inr e1
set_option maxRecDepth 100000 in
set_option maxHeartbeats 4000000 in
theorem scriptCuts_no (idv tv : Int) (v : Value) (w : World) (hW : VaW w) (h0 : ArgB w v) (hid : idv < 1 ∨ 4 < idv) : Calls Tryz.prog 11 #[.int .i64 idv, v, .int .i64 tv] w fun e w' => e = .returned (.bool true) ∧ Below w.heap.size w w' := by
  obtain ⟨A, c, k, l, rfl, hr, hmi, hmc, hcm, hl⟩ := h0.cut 400
  obtain ⟨n, hn⟩ : ∃ n, l.length = n := ⟨_, rfl⟩
  have hsl := fun w => slice_head A k c (l.length : Int) w (by omega) hmc
  simp only [hn, Int.toNat_natCast] at hsl
  rw [hn] at hmi hmc hl
  replace hmi : min (k : Int) 400 = (n : Int) := hmi
  have hsh := Lib.hid (shown19_any w hW)
  have hfm := Lib.hid fun (W : World) (hb : Below w.heap.size w W) => run_form idv hid (.slice A n c) W (hW.below hb)
  clear hW hr hid
  go_enter Tryz.func11, Tryz.ntmps11
  go_wp2_with fail
  refine hsh.out.mono ?_
  rintro e w1 ⟨rfl, hb1⟩
  clear hsh
  have hc := Lib.hid (hfm.out _ hb1)
  clear hfm
  go_wp2_with fail
  refine hc.out.mono ?_
  rintro e w2 ⟨rfl, hb2⟩
  have hB := (hb1.trans (hb2.mono hb1.size)).trans (((Below.refl w2.heap.size w2).alloc (Nat.le_refl _) (.cells #[.slice none 0 0, .slice none 0 0] 57)).mono (hb1.trans (hb2.mono hb1.size)).size)
  clear hc hb1 hb2
  go_wp2
  go_ret
  exact ⟨rfl, hB⟩
set_option maxRecDepth 100000 in
set_option maxHeartbeats 4000000 in
theorem scriptCuts_yes (idv tv : Int) (v : Value) (w : World) (hW : VaW w) (h0 : ArgB w v) (h1 : 1 ≤ idv) (h4 : idv ≤ 4) : Calls Tryz.prog 11 #[.int .i64 idv, v, .int .i64 tv] w fun e w' => e = .returned (.bool true) ∧ Below w.heap.size w w' := by
  obtain ⟨A, c, k, l, rfl, hr, hmi, hmc, hcm, hl⟩ := h0.cut 400
  obtain ⟨n, hn⟩ : ∃ n, l.length = n := ⟨_, rfl⟩
  have hsl := fun w => slice_head A k c (l.length : Int) w (by omega) hmc
  simp only [hn, Int.toNat_natCast] at hsl
  rw [hn] at hmi hmc hl
  replace hmi : min (k : Int) 400 = (n : Int) := hmi
  obtain ⟨m0, hm0, hm1⟩ := and_low tv
  obtain ⟨t, ht⟩ : ∃ t, m0 % (n + 1) = t := ⟨_, rfl⟩
  have hti : (m0 : Int) % ((n : Int) + 1) = (t : Int) := by rw [← ht]; simp
  have htn : t ≤ n := by have := Nat.mod_lt m0 (show n + 1 > 0 by omega); omega
  have hn1 : (n : Int) + 1 ≠ 0 := by omega
  have hsp := fun w => slice_head A n c (t : Int) w (by omega) (by omega)
  simp only [Int.toNat_natCast] at hsp
  have hsh := Lib.hid (shown19_any w hW)
  have hra := Lib.hid fun (W : World) (hb : Below w.heap.size w W) => run_yes (id := idv) h1 h4 (hW.below hb) (⟨hn, by omega, hcm, by omega, (hr.below hb).more hb.size⟩ : ByA W A n c l)
  have hrb := Lib.hid fun (W : World) (hb : Below w.heap.size w W) => run_yes (id := idv) h1 h4 (hW.below hb) (⟨by rw [List.length_take]; omega, by omega, hcm, by omega, ((hr.take t).below hb).more hb.size⟩ : ByA W A t c (l.take t))
  have hct := Lib.hid fun h => cut_told (id := idv) (l := l) (t := t) h (by omega)
  clear hW hr ht hm1 h1 h4
  obtain ⟨R1, hR1⟩ : ∃ R, runP idv 1000 0 [] l = R := ⟨_, rfl⟩
  obtain ⟨R2, hR2⟩ : ∃ R, runP idv 1000 0 [] (l.take t) = R := ⟨_, rfl⟩
  rw [hR1] at hra
  rw [hR2] at hrb
  rw [hR1, hR2] at hct
  clear hR1 hR2 hn hl
  obtain ⟨k1, hk1⟩ : ∃ k, R1.O.length = k := ⟨_, rfl⟩
  obtain ⟨k2, hk2⟩ : ∃ k, R2.O.length = k := ⟨_, rfl⟩
  rw [hk1, hk2] at hct
  replace hk1 := Lib.hid hk1
  replace hk2 := Lib.hid hk2
  go_enter Tryz.func11, Tryz.ntmps11
  go_wp2_with fail
  refine hsh.out.mono ?_
  rintro e w1 ⟨rfl, hb1⟩
  clear hsh
  have hc := Lib.hid (hra.out _ hb1)
  clear hra
  go_wp2_with fail
  refine hc.out.mono ?_
  rintro e w2 ⟨A1, A2, n1, c1, c2, rfl, -, hkc, hrd, hb2⟩
  rw [hk1.out] at hkc ⊢
  have hB := (hb1.trans (hb2.mono hb1.size)).trans (((Below.refl w2.heap.size w2).alloc (Nat.le_refl _) (.cells #[.slice A1 n1 c1, .slice A2 k1 c2] 57)).mono (hb1.trans (hb2.mono hb1.size)).size)
  have hp := pBlk_made w2 #[.slice A1 n1 c1, .slice A2 k1 c2] 57
  have hu := pU_st A2 R1.O _ _ hrd ((Below.refl w2.heap.size w2).alloc (Nat.le_refl _) (.cells #[.slice A1 n1 c1, .slice A2 k1 c2] 57))
  clear hc hb1 hb2 hrd
  by_cases he : R1.err = 0
  · obtain ⟨hcu, hkk, htk, hkm⟩ := hct.out he
    have he0 : (R1.err : Int) = 0 := by omega
    rw [he0]
    have hc := Lib.hid (hrb.out _ hB)
    clear hrb hct he he0
    go_wp2_with fail
    refine hc.out.mono ?_
    rintro e w3 ⟨A3, A4, n3, c3, c4, rfl, -, hkd, hrd, hb3⟩
    rw [hk2.out] at hkd ⊢
    rw [hti]
    have hB3 := hB.trans (hb3.mono hB.size)
    have hal := (Below.refl w3.heap.size w3).alloc (Nat.le_refl _) (.cells #[.slice A3 n3 c3, .slice A4 k2 c4] 57)
    have hp1 := pBlk_st _ _ _ _ _ (pBlk_st _ _ _ _ _ hp hb3) hal
    have hp2 := pBlk_made w3 #[.slice A3 n3 c3, .slice A4 k2 c4] 57
    have hu1 := pU_st A2 R1.O _ _ (pU_st A2 R1.O _ _ hu hb3) hal
    have hu2 := pU_st A4 R2.O _ _ hrd hal
    have hBf := hB3.trans (hal.mono hB3.size)
    have x1 := hp1.cell 1 _ rfl
    have xl := hp1.lt
    have y1 := hp2.cell 1 _ rfl
    have yl := hp2.lt
    have hgt : ¬ (k1 : Int) < (k2 : Int) := by omega
    have hsu := fun w => slice_headU A2 k1 c2 (k2 : Int) w (by omega) (by omega)
    simp only [Int.toNat_natCast] at hsu
    clear hc hp hu hrd hb3 hB hal hB3 hp1 hp2
    rcases hcu with ⟨hz, hus⟩ | ⟨hz, hus⟩
    · rw [hz, hus]
      clear hz hus
      have hwd := Lib.hid fun nn => words_yes (c := c4) (c' := c2) (RdU.drewN hu2 nn) (RdU.drewN (htk ▸ hu1.take k2) nn) hk2.out (by omega)
      go_wp2_with fail
      go_quiet ((go_at_call 38; exact Calls.quiet_of (hwd.out _)))
      have hBq := hBf.trans ((below_drewN (w3.alloc (.cells #[.slice A3 n3 c3, .slice A4 k2 c4] 57)) nq).mono hBf.size)
      go_wp2
      go_ret
      exact ⟨rfl, hBq⟩
    · rw [hz]
      obtain ⟨u2, hu9⟩ : ∃ u, R2.used = u := ⟨_, rfl⟩
      rw [hu9] at hus ⊢
      have hge : ¬ (t : Int) ≤ (u2 : Int) := by omega
      have hgd : decide ((t : Int) ≤ (u2 : Int)) = false := decide_eq_false hge
      clear hz hus hu9
      have hwd := Lib.hid fun nn => words_yes (c := c4) (c' := c2) (RdU.drewN hu2 nn) (RdU.drewN (htk ▸ hu1.take k2) nn) hk2.out (by omega)
      go_wp2_with fail
      go_quiet ((go_at_call 38; exact Calls.quiet_of (hwd.out _)))
      have hBq := hBf.trans ((below_drewN (w3.alloc (.cells #[.slice A3 n3 c3, .slice A4 k2 c4] 57)) nq).mono hBf.size)
      go_wp2
      go_ret
      exact ⟨rfl, hBq⟩
  · have he0 : ¬ (R1.err : Int) = 0 := by omega
    have hed : decide ((R1.err : Int) = 0) = false := decide_eq_false he0
    clear hrb hct he hp hu
    go_wp2
    go_ret
    exact ⟨rfl, hB⟩
theorem scriptCuts_any (idv tv : Int) (v : Value) (w : World) (hW : VaW w) (h0 : ArgB w v) : Calls Tryz.prog 11 #[.int .i64 idv, v, .int .i64 tv] w fun e w' => e = .returned (.bool true) ∧ Below w.heap.size w w' := by
  by_cases h : idv < 1 ∨ 4 < idv
  · exact scriptCuts_no idv tv v w hW h0 h
  · exact scriptCuts_yes idv tv v w hW h0 (by omega) (by omega)
end Go.Proofs.YtobokaafmcfeaaaGreatDoor
