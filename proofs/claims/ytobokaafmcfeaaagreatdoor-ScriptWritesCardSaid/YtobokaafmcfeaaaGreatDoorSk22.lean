/- Values: the numbers of magnitudes, walked. Conditions: the variables that values read. -/
/- Values: At, Between, Pattern, walked. Conditions: the variables that values read. -/
/- Values: Pattern, walked. Conditions: the variables that values read. -/
/- A whole struct stored into a block of its own, numbers kept: a law at the operation. Conditions: none. -/
/- A whole struct stored into a block of its own, all else kept: a law at the operation. Conditions: none. -/
/- How digits are written, walked: Right, joined, zeros. Condition: the table of powers reads as it is laid. -/
/- The nat layer, by values: results lie in new memory. Conditions: a number's words are counted. -/
import Derived.Test.YtobokaafmcfeaaaGreatDoorSk21
import Derived.Test.YtobokaafmcfeaaaGreatDoorSk04
import Derived.Test.YtobokaafmcfeaaaGreatDoorSk16
import Derived.Test.YtobokaafmcfeaaaGreatDoorSk20
import Derived.Test.YtobokaafmcfeaaaGreatDoorSk03
import Derived.Lib.AppendIntMem
namespace Go.Proofs.YtobokaafmcfeaaaGreatDoor
open Go.RowKit Go.Cal
set_option maxRecDepth 100000 in
set_option maxHeartbeats 1000000 in
theorem vodd_any (m : Nat) (e : Int) (hm : m < 18446744073709551616) (he : -100000 ≤ e ∧ e ≤ 100000) (w : World) (hT : TabD w) :
    Calls Tryz.prog 347 #[.int .u64 m, .int .i64 e] w fun x w' => x = .returned (.tuple #[.int .u64 ((oddP 64 m e).1 : Nat), .int .i64 (oddP 64 m e).2]) ∧ w = w' := by
  by_cases h0 : m = 0
  · have hv : oddP 64 m e = (0, 0) := by unfold oddP; rw [if_pos h0]
    rw [hv]
    subst h0
    go_enter Tryz.func347, Tryz.ntmps347
    go_wp2
    go_ret2
    exact ⟨rfl, rfl⟩
  · have hk := tzN_lt 64 m (by omega) (by omega)
    have hv : oddP 64 m e = (m / 2 ^ tzN 64 m, e + tzN 64 m) := by unfold oddP; rw [if_neg h0]
    have htz := Lib.hid (tz_any m (by omega) hm w hT)
    have h0' : ((m : Int) == 0) = false := by simp; omega
    obtain ⟨k, hk'⟩ : ∃ k, tzN 64 m = k := ⟨_, rfl⟩
    rw [hv]
    rw [hk'] at hk htz ⊢
    clear hv hk'
    go_enter Tryz.func347, Tryz.ntmps347
    go_wp2_with fail
    refine htz.out.mono ?_
    rintro x w1 ⟨rfl, rfl⟩
    go_wp2
    go_ret2
    exact ⟨rfl, rfl⟩
theorem wrap64_id {x : Int} (h1 : -1000000 ≤ x) (h2 : x ≤ 1000000) : wrap64 x = x := by
  unfold wrap64
  omega
theorem fo_wide {id : Int} (h1 : 1 ≤ id) (h2 : id < 15) : (fW id).toNat ≤ 64 ∧ 4 ≤ (fW id).toNat ∧ (fM id).toNat ≤ 52 ∧ (fB id).toNat ≤ 1023 ∧ fW id = ((fW id).toNat : Int) ∧ fM id = ((fM id).toNat : Int) ∧ fB id = ((fB id).toNat : Int) := by
  rcases id_cases h1 h2 with rfl | rfl | rfl | rfl | rfl | rfl | rfl | rfl | rfl | rfl | rfl | rfl | rfl | rfl <;> decide +kernel
/-- May a magnitude of a form with so many bits more be? -/
structure MagOk (id : Int) (more key : Nat) : Prop where
  few : more ≤ 1
  word : key < 18446744073709551616
  one : fK id = 1 → 0 < key ∧ key < 2 ^ ((fW id).toNat + more - 1)
  two : fK id = 2 → key / 2 ^ ((fM id).toNat + more) ≤ 4095
  four : fK id = 4 → key < 10000
theorem below_drewN (w : World) (n : Nat) : Below w.heap.size w (w.drewN n) := ⟨rfl, rfl, rfl, Nat.le_refl _, fun _ _ => rfl⟩
set_option maxRecDepth 100000 in
set_option maxHeartbeats 1000000 in
theorem num_any (id : Int) (h1 : 1 ≤ id) (h2 : id < 15) (more key : Nat) (mo ky : Int) (hmo : mo = more) (hky : ky = key) (hok : MagOk id more key) (w : World) (hW : VaW w) :
    Calls Tryz.prog (numI (fK id)) #[.agg #[.int .i64 (fK id), .int .i64 (fW id), .int .i64 (fM id), .int .i64 (fB id), .int .u64 (fT id), .int .u64 (fI id), .int .u64 (fN id)], .int .i64 mo, .int .u64 ky] w fun e w' => e = .returned (.tuple #[.int .u64 ((magV id more key).1 : Nat), .int .i64 (magV id more key).2]) ∧ Below w.heap.size w w' := by
  subst hmo; subst hky
  obtain ⟨w1, w2, w3, w4, e1, e2, e3⟩ := fo_wide h1 h2
  obtain ⟨k0, k1, k2, k3, k4⟩ := hok
  have hKc : fK id = 1 ∨ fK id = 2 ∨ fK id = 3 ∨ fK id = 4 := by have := fK_bnd id; omega
  rcases hKc with hK | hK | hK | hK
  · have hI : numI (fK id) = 342 := by rw [hK]; rfl
    obtain ⟨n, hn⟩ : ∃ n, (fW id).toNat + more - 1 = n := ⟨_, rfl⟩
    have hk := k2 hK
    rw [hn] at hk
    have hv : magV id more key = oddP 64 (poF (poL n key) (key % 2 ^ poL n key)) (4 * poR n key + poE (poL n key) (key % 2 ^ poL n key) - (poL n key - 2 : Nat)) := by
      unfold magV numQ
      rw [hK, hn]
      rfl
    have hpv := pvalue_any n key (by omega) (by omega) hk.1 hk.2
    rw [← hv] at hpv
    have hw : (n : Int) + 1 = fW id + more := by omega
    rw [hw] at hpv
    generalize magV id more key = p at hpv hv ⊢
    obtain ⟨mv, ev⟩ := p
    replace hpv := Lib.hid hpv
    rw [hI]
    clear hv hw hn hI k2 k3 k4
    have hb0 : -9223372036854775808 ≤ fW id + more ∧ fW id + more ≤ 9223372036854775807 := by omega
    replace hK := Lib.hid hK
    clear e1 e2 e3
    obtain ⟨hb0, hb1⟩ := hb0
    go_enter Tryz.func342, Tryz.ntmps342
    go_wp2_with fail
    refine (hpv.out _ (hW.bru.below ((Below.refl _ _).alloc (Nat.le_refl _) _))).mono ?_
    rintro e u1 ⟨rfl, hb⟩
    go_wp2
    go_ret2
    exact ⟨rfl, ((Below.refl _ _).alloc (Nat.le_refl _) _).trans (hb.mono (by simp))⟩
  · have hI : numI (fK id) = 344 := by rw [hK]; rfl
    have hv : magV id more key = oddP 64 (miM ((fM id).toNat + more) key) ((miE ((fM id).toNat + more) key : Int) - (fB id).toNat - ((fM id).toNat + more : Nat)) := by
      unfold magV numQ
      rw [hK]
      rfl
    have hpv := mvalue_any ((fM id).toNat + more) (fB id).toNat key (by omega) (by omega) k1 (k3 hK)
    rw [← hv, show (((fM id).toNat + more : Nat) : Int) = fM id + more by omega, ← e3] at hpv
    generalize magV id more key = p at hpv hv ⊢
    obtain ⟨mv, ev⟩ := p
    replace hpv := Lib.hid hpv
    rw [hI]
    clear hv hI k2 k3 k4
    have hb0 : -9223372036854775808 ≤ fM id + more ∧ fM id + more ≤ 9223372036854775807 := by omega
    replace hK := Lib.hid hK
    clear e1 e2 e3
    obtain ⟨hb0, hb1⟩ := hb0
    go_enter Tryz.func344, Tryz.ntmps344
    go_wp2_with fail
    refine (hpv.out _ (hW.bru.below ((Below.refl _ _).alloc (Nat.le_refl _) _))).mono ?_
    rintro e u1 ⟨rfl, hb⟩
    go_wp2
    go_ret2
    exact ⟨rfl, ((Below.refl _ _).alloc (Nat.le_refl _) _).trans (hb.mono (by simp))⟩
  · have hI : numI (fK id) = 346 := by rw [hK]; rfl
    have hv : magV id more key = oddP 64 key (-((fM id).toNat + more : Nat)) := by
      unfold magV numQ
      rw [hK]
      rfl
    have hpv := vodd_any key (-((fM id).toNat + more : Nat)) k1 (by omega)
    rw [← hv, show (-(((fM id).toNat + more : Nat) : Int)) = -fM id - more by omega] at hpv
    generalize magV id more key = p at hpv hv ⊢
    obtain ⟨mv, ev⟩ := p
    replace hpv := Lib.hid hpv
    rw [hI]
    clear hv hI k2 k3 k4
    have hb0 : 0 ≤ fM id ∧ fM id ≤ 52 := by omega
    replace hK := Lib.hid hK
    clear e1 e2 e3
    obtain ⟨hb0, hb1⟩ := hb0
    go_enter Tryz.func346, Tryz.ntmps346
    go_wp2_with fail
    refine (hpv.out _ (hW.bru.below ((Below.refl _ _).alloc (Nat.le_refl _) _))).mono ?_
    rintro e u1 ⟨rfl, rfl⟩
    go_wp2
    go_ret2
    exact ⟨rfl, ((Below.refl _ _).alloc (Nat.le_refl _) _)⟩
  · have hI : numI (fK id) = 348 := by rw [hK]; rfl
    have hk := k4 hK
    have hv : magV id more key = (1 + 2 * more, ((key / 2 ^ more : Nat) : Int) - (fB id).toNat - more) := by
      unfold magV numQ
      rw [hK]
      exact oddP_odd 64 (1 + 2 * more) _ (by omega)
    rw [hI, hv]
    clear hv hI k2 k3 k4
    have hb0 : 0 ≤ fB id ∧ fB id ≤ 1023 := by omega
    obtain ⟨hb0, hb1⟩ := hb0
    replace hK := Lib.hid hK
    have hwz := Lib.hid (show wrap64 (wrap64 (wrap64 ((key : Int) / 2 ^ more) - fB id) - (more : Int)) = ((key / 2 ^ more : Nat) : Int) - (fB id).toNat - more by
      have e4 : (key : Int) / 2 ^ more = ((key / 2 ^ more : Nat) : Int) := by push_cast; rfl
      have e5 : key / 2 ^ more ≤ key := Nat.div_le_self _ _
      rw [e4]
      generalize key / 2 ^ more = q at e5 ⊢
      have f1 : 0 ≤ (q : Int) ∧ (q : Int) < 10000 := by omega
      rw [wrap64_id (x := (q : Int)) (by omega) (by omega), wrap64_id (x := (q : Int) - fB id) (by omega) (by omega), wrap64_id (by omega) (by omega)]
      omega)
    clear e1 e2 e3
    go_enter Tryz.func348, Tryz.ntmps348
    go_wp2_with fail
    go_quiet (fail)
    go_wp2
    rw [hwz.out]
    go_ret2
    exact ⟨by push_cast; rfl, ((Below.refl _ _).alloc (Nat.le_refl _) _).trans ((below_drewN _ _).mono (by simp))⟩
end Go.Proofs.YtobokaafmcfeaaaGreatDoor
namespace Go.Proofs.YtobokaafmcfeaaaGreatDoor
open Go.RowKit Go.Cal
theorem pBlk_keep {g h : Nat} {cs : Array Value} {t : TypeId} {w w' : World} (hp : pBlk g cs t w) (hb : Below h w w') (hg : g < h) : pBlk g cs t w' := by
  unfold pBlk
  rw [hb.block g hg]
  exact hp
def fitM (id : Int) : Int := if fK id = 3 then fT id + 1 else fT id
theorem fitM_cases {id : Int} (h1 : 1 ≤ id) (h2 : id < 15) : ((fK id == 3) = true ∧ 0 ≤ fT id ∧ fT id ≤ 127 ∧ fitM id = fT id + 1) ∨ ((fK id == 3) = false ∧ fitM id = fT id) := by
  rcases id_cases h1 h2 with rfl | rfl | rfl | rfl | rfl | rfl | rfl | rfl | rfl | rfl | rfl | rfl | rfl | rfl <;> decide +kernel
set_option maxRecDepth 100000 in
set_option maxHeartbeats 1000000 in
theorem vfits_yes (id : Int) (h1 : 1 ≤ id) (h2 : id < 15) (key : Int) (hk : key ≤ fitM id) (w : World) (hW : VaW w) :
    Calls Tryz.prog 278 #[.int .i64 id, .int .u64 key] w fun e w' => e = .returned (.tuple #[.agg #[.int .i64 (fK id), .int .i64 (fW id), .int .i64 (fM id), .int .i64 (fB id), .int .u64 (fT id), .int .u64 (fI id), .int .u64 (fN id), .func (.func (numI (fK id))) #[] #[]], .int .i64 0]) ∧ Below w.heap.size w w' := by
  have hfn := Lib.hid (fun w hW => vof_yes id h1 h2 w hW)
  rcases fitM_cases h1 h2 with ⟨h3, hT, hT', hM⟩ | ⟨h3, hM⟩
  all_goals
    rw [hM] at hk
    have hng : ¬ key > fT id + 1 ∨ ¬ key > fT id := by omega
    clear hM hng
    go_enter Tryz.func278, Tryz.ntmps278
    go_wp2_with fail
    refine (hfn.out _ (hW.below ((Below.refl _ _).alloc (Nat.le_refl _) _))).mono ?_
    rintro e w1 ⟨rfl, hb⟩
    have hz := hb.size
    simp at hz
    have hB : Below w.heap.size w w1 := ((Below.refl _ _).alloc (Nat.le_refl _) _).trans (hb.mono (by simp))
    have hp1 := pBlk_st _ _ _ _ _ (pBlk_st _ _ _ _ _ (pBlk_made w #[.int .i64 0, .int .i64 0, .int .i64 0, .int .i64 0, .int .u64 0, .int .u64 0, .int .u64 0, .nilFunc] 257) hb) ((Below.refl _ _).alloc (Nat.le_refl _) (.cells #[.int .i64 0, .int .i64 0, .int .i64 0, .int .i64 0, .int .u64 0, .int .u64 0, .int .u64 0, .nilFunc] 257))
    go_wp2_with (first
      | ((with_reducible show wpList _ _ _ (Oper.mk _ (Op.store 257 _ _) _ _ _ _ :: _) _ _); refine wpList_store_whole _ rfl 257 _ _ rfl w1.heap.size #[.int .i64 (fK id), .int .i64 (fW id), .int .i64 (fM id), .int .i64 (fB id), .int .u64 (fT id), .int .u64 (fI id), .int .u64 (fN id), .func (.func (numI (fK id))) #[] #[]] #[.int .i64 0, .int .i64 0, .int .i64 0, .int .i64 0, .int .u64 0, .int .u64 0, .int .u64 0, .nilFunc] 257 rfl rfl (pBlk_made w1 #[.int .i64 0, .int .i64 0, .int .i64 0, .int .i64 0, .int .u64 0, .int .u64 0, .int .u64 0, .nilFunc] 257) shape_size rfl (by simp [Value.oneCell']) ?_; intro w2 hp2 hb2 hz2; obtain ⟨r0, r1, r2, r3, r4, r5, r6, r7⟩ := cells8 hp2; have hp0 := pBlk_keep hp1 hb2 (by omega))
      | ((with_reducible show wpList _ _ _ (Oper.mk _ (Op.store 257 _ _) _ _ _ _ :: _) _ _); refine wpList_store_whole _ rfl 257 _ _ rfl w.heap.size #[.int .i64 (fK id), .int .i64 (fW id), .int .i64 (fM id), .int .i64 (fB id), .int .u64 (fT id), .int .u64 (fI id), .int .u64 (fN id), .func (.func (numI (fK id))) #[] #[]] #[.int .i64 0, .int .i64 0, .int .i64 0, .int .i64 0, .int .u64 0, .int .u64 0, .int .u64 0, .nilFunc] 257 rfl rfl hp0 shape_size rfl (by simp [Value.oneCell']) ?_; intro w3 hp3 hb3 hz3; obtain ⟨s0, s1, s2, s3, s4, s5, s6, s7⟩ := cells8 hp3))
    have hB3 : Below w.heap.size w w3 := ((hB.alloc hB.size _).trans (hb2.mono hB.size)).trans hb3
    exact bodyPost_ret (v := .tuple #[.agg #[.int .i64 (fK id), .int .i64 (fW id), .int .i64 (fM id), .int .i64 (fB id), .int .u64 (fT id), .int .u64 (fI id), .int .u64 (fN id), .func (.func (numI (fK id))) #[] #[]], .int .i64 0]) (by simp [results, Tryz.results278, go_sem, s0, s1, s2, s3, s4, s5, s6, s7]) rfl ⟨rfl, hB3⟩
theorem numI_cases (k : Int) : numI k = 342 ∨ numI k = 344 ∨ numI k = 346 ∨ numI k = 348 := by
  unfold numI
  split
  · exact .inl rfl
  · split
    · exact .inr (.inl rfl)
    · split
      · exact .inr (.inr (.inl rfl))
      · exact .inr (.inr (.inr rfl))
theorem mag_tab {id : Int} (h1 : 1 ≤ id) (h2 : id < 15) : 0 ≤ fitM id ∧ 2 * (fitM id).toNat + 1 < 18446744073709551616 ∧ (fK id = 1 → 2 * (fitM id).toNat + 1 < 2 ^ ((fW id).toNat + 1 - 1) ∧ (fitM id).toNat < 2 ^ ((fW id).toNat + 0 - 1)) ∧
    (fK id = 2 → (2 * (fitM id).toNat + 1) / 2 ^ ((fM id).toNat + 1) ≤ 4095 ∧ (fitM id).toNat / 2 ^ ((fM id).toNat + 0) ≤ 4095) ∧ (fK id = 4 → 2 * (fitM id).toNat + 1 < 10000) := by
  rcases id_cases h1 h2 with rfl | rfl | rfl | rfl | rfl | rfl | rfl | rfl | rfl | rfl | rfl | rfl | rfl | rfl <;> decide +kernel
theorem mag_half {id : Int} {key : Nat} (h1 : 1 ≤ id) (h2 : id < 15) (hk : (key : Int) ≤ fitM id) : MagOk id 1 (2 * key + 1) := by
  obtain ⟨a, b, c, d, e⟩ := mag_tab h1 h2
  have hk' : key ≤ (fitM id).toNat := by omega
  refine ⟨by decide, by omega, fun h => ⟨by omega, by have := (c h).1; omega⟩, fun h => ?_, fun h => by have := e h; omega⟩
  exact Nat.le_trans (Nat.div_le_div_right (by omega)) (d h).1
theorem mag_own {id : Int} {key : Nat} (h1 : 1 ≤ id) (h2 : id < 15) (hk : (key : Int) ≤ fitM id) (h0 : fK id = 1 → 0 < key) : MagOk id 0 key := by
  obtain ⟨a, b, c, d, e⟩ := mag_tab h1 h2
  have hk' : key ≤ (fitM id).toNat := by omega
  refine ⟨by decide, by omega, fun h => ⟨h0 h, by have := (c h).2; omega⟩, fun h => ?_, fun h => by have := e h; omega⟩
  exact Nat.le_trans (Nat.div_le_div_right (by omega)) (d h).2
set_option maxRecDepth 100000 in
set_option maxHeartbeats 1000000 in
theorem vbetween_any (id : Int) (h1 : 1 ≤ id) (h2 : id < 15) (key : Nat) (hk : (key : Int) ≤ fitM id) (w : World) (hW : VaW w) :
    Calls Tryz.prog 253 #[.int .i64 id, .int .u64 key] w fun e w' => e = .returned (.tuple #[.int .u64 ((magV id 1 (2 * key + 1)).1 : Nat), .int .i64 (magV id 1 (2 * key + 1)).2, .int .i64 0]) ∧ Below w.heap.size w w' := by
  have hft := Lib.hid (fun w hW => vfits_yes id h1 h2 key hk w hW)
  have hok := mag_half h1 h2 hk
  have hlt := hok.word
  have hnm := fun w hW => num_any id h1 h2 1 (2 * key + 1) 1 (2 * key + 1) rfl (by push_cast; rfl) hok w hW
  generalize magV id 1 (2 * key + 1) = p at hnm ⊢
  obtain ⟨mv, ev⟩ := p
  clear hok hk
  rcases numI_cases (fK id) with hI | hI | hI | hI
  all_goals
    rw [hI] at hnm hft
    replace hnm := Lib.hid hnm
    go_enter Tryz.func253, Tryz.ntmps253
    go_wp2_with fail
    refine (hft.out _ hW).mono ?_
    rintro e w1 ⟨rfl, hb⟩
    go_wp2_with (first | ((with_reducible show wpList _ _ _ (Oper.mk _ (Op.store 257 _ _) _ _ _ _ :: _) _ _); refine wpList_store_whole _ rfl 257 _ _ rfl (w1).heap.size _ #[.int .i64 0, .int .i64 0, .int .i64 0, .int .i64 0, .int .u64 0, .int .u64 0, .int .u64 0, .nilFunc] 257 rfl rfl (pBlk_made w1 #[.int .i64 0, .int .i64 0, .int .i64 0, .int .i64 0, .int .u64 0, .int .u64 0, .int .u64 0, .nilFunc] 257) shape_size rfl (by simp [Value.oneCell']) ?_; intro w2 hp2 hb2 hz2; obtain ⟨r0, r1, r2, r3, r4, r5, r6, r7⟩ := cells8 hp2))
    have hB : Below w.heap.size w w2 := (hb.alloc hb.size _).trans (hb2.mono hb.size)
    refine (hnm.out _ (hW.below hB)).mono ?_
    rintro e w3 ⟨rfl, hb3⟩
    go_wp2
    go_ret3
    exact ⟨rfl, hB.trans (hb3.mono hB.size)⟩
end Go.Proofs.YtobokaafmcfeaaaGreatDoor
namespace Go.Proofs.YtobokaafmcfeaaaGreatDoor
open Go.RowKit Go.Cal
theorem pat_or (key : Int) (n : Nat) (hn : n ≤ 63) (h0 : 0 ≤ key) (h1 : key < 2 ^ n) : bits BinOp.or IntKind.u64 key (2 ^ n) = key + 2 ^ n := by
  obtain ⟨k, rfl⟩ := Int.eq_ofNat_of_zero_le h0
  have e1 : (2 : Int) ^ n = ((2 ^ n : Nat) : Int) := by push_cast; rfl
  rw [e1] at h1 ⊢
  have h3 : 2 ^ n ≤ 2 ^ 63 := Nat.pow_le_pow_right (by decide) hn
  have h2 : k < 2 ^ n := by exact_mod_cast h1
  rw [bits_or_u64_nat _ _ (by omega) (by omega), Nat.or_comm]
  have := Nat.two_pow_add_eq_or_of_lt h2 1
  rw [Nat.mul_one] at this
  rw [← this]
  push_cast
  omega
theorem pat_and (key : Int) (n : Nat) (hn : n ≤ 64) : bits BinOp.and IntKind.u64 (IntKind.u64.wrap (-key)) (2 ^ n - 1) = (-key) % 2 ^ n := by
  obtain ⟨x, hx⟩ : ∃ x : Nat, (-key) % 18446744073709551616 = (x : Int) := ⟨((-key) % 18446744073709551616).toNat, by omega⟩
  have hxl : x < 18446744073709551616 := by omega
  have e1 : (2 : Int) ^ n - 1 = ((2 ^ n - 1 : Nat) : Int) := by
    have := Nat.one_le_two_pow (n := n)
    push_cast [this]; rfl
  have h3 : 2 ^ n ≤ 2 ^ 64 := Nat.pow_le_pow_right (by decide) hn
  have h4 := Nat.two_pow_pos n
  rw [wrap_u64, hx, e1, bits_and_u64_nat _ _ hxl (by omega), Nat.and_two_pow_sub_one_eq_mod]
  push_cast
  rw [← hx]
  have hd : (2 : Int) ^ n ∣ 18446744073709551616 := by
    refine ⟨2 ^ (64 - n), ?_⟩
    rw [← Int.pow_add, show n + (64 - n) = 64 by omega]
    rfl
  exact Int.emod_emod_of_dvd _ hd
set_option maxRecDepth 100000 in
set_option maxHeartbeats 1000000 in
theorem vpat_any (id : Int) (neg : Bool) (key : Int) (he : mostE id neg = 0) (h0 : 0 ≤ key) (hk : key ≤ mostV id neg) (w : World) (hW : VaW w) :
    Calls Tryz.prog 140 #[.int .i64 id, .bool neg, .int .u64 key] w fun e w' => e = .returned (.tuple #[.int .u64 (patV id neg key), .int .i64 0]) ∧ Below w.heap.size w w' := by
  obtain ⟨h1, h2, h4⟩ := mostE_zero he
  have hm := fun w hW => vmost_any id neg w hW
  have hR : mostR id neg = mostV id neg := by unfold mostR; rw [if_pos he]
  have hbn := mostV_bnd id neg
  rw [he, hR] at hm
  replace hm := Lib.hid hm
  have hfn := Lib.hid (fun w hW => vof_yes id h1 h2 w hW)
  obtain ⟨w1, w2, w3, w4, e1, e2, e3⟩ := fo_wide h1 h2
  have hkb : key < 18446744073709551616 := by omega
  obtain ⟨mv, hmv⟩ : ∃ mv, mostV id neg = mv := ⟨_, rfl⟩
  have hfT : fK id = 2 → mv < 2 ^ ((fW id).toNat - 1) := by
    intro h
    rw [← hmv]
    clear hm hfn hmv hkb hbn hR hk e1 e2 e3 w1 w2 w3 w4
    rcases id_cases h1 h2 with rfl | rfl | rfl | rfl | rfl | rfl | rfl | rfl | rfl | rfl | rfl | rfl | rfl | rfl <;> cases neg <;> first | decide +kernel | (exact absurd h (by decide))
  rw [hmv] at hm hk
  clear hR hbn hmv he
  cases neg with
  | false =>
    have hv : patV id false key = key := by unfold patV; rw [if_pos rfl]
    rw [hv]
    clear hv hfT h4 e1 e2 e3
    go_enter Tryz.func140, Tryz.ntmps140
    go_wp2_with fail
    refine (hm.out _ hW).mono ?_
    rintro e u1 ⟨rfl, hb⟩
    go_wp2_with fail
    refine (hfn.out _ (hW.below hb)).mono ?_
    rintro e u2 ⟨rfl, hb1⟩
    go_wp2_with ((with_reducible show wpList _ _ _ (Oper.mk _ (Op.store 257 _ _) _ _ _ _ :: _) _ _); refine wpList_store_whole _ rfl 257 _ _ rfl (u2).heap.size #[.int .i64 (fK id), .int .i64 (fW id), .int .i64 (fM id), .int .i64 (fB id), .int .u64 (fT id), .int .u64 (fI id), .int .u64 (fN id), .func (.func (numI (fK id))) #[] #[]] #[.int .i64 0, .int .i64 0, .int .i64 0, .int .i64 0, .int .u64 0, .int .u64 0, .int .u64 0, .nilFunc] 257 rfl rfl (pBlk_made u2 #[.int .i64 0, .int .i64 0, .int .i64 0, .int .i64 0, .int .u64 0, .int .u64 0, .int .u64 0, .nilFunc] 257) shape_size rfl (by simp [Value.oneCell']) ?_; intro w2 hp2 hb2 hz2; obtain ⟨r0, r1, r2, r3, r4, r5, r6, r7⟩ := cells8 hp2)
    go_ret2
    exact ⟨rfl, (((hb.trans (hb1.mono hb.size)).alloc (Nat.le_trans hb.size hb1.size) _).trans (hb2.mono (Nat.le_trans hb.size hb1.size)))⟩
  | true =>
    by_cases hK : fK id = 2
    · have hv : patV id true key = key + 2 ^ ((fW id).toNat - 1) := by unfold patV; rw [if_neg (by decide), if_pos hK]
      have hor := Lib.hid (pat_or key ((fW id).toNat - 1) (by omega) h0 (by have := hfT hK; omega))
      have hsg := Lib.hid (fun w => fo_sign (fK id) (fW id) (fM id) (fB id) (fT id) (fI id) (fN id) w (by omega) (by omega) (by omega))
      have hK' : (fK id == 2) = true := by simp [hK]
      rw [hv]
      replace hK := Lib.hid hK
      clear hv hfT h4 e1 e2 e3
      go_enter Tryz.func140, Tryz.ntmps140
      go_wp2_with fail
      refine (hm.out _ hW).mono ?_
      rintro e u1 ⟨rfl, hb⟩
      go_wp2_with fail
      refine (hfn.out _ (hW.below hb)).mono ?_
      rintro e u2 ⟨rfl, hb1⟩
      go_wp2_with (first | ((with_reducible show wpList _ _ _ (Oper.mk _ (Op.store 257 _ _) _ _ _ _ :: _) _ _); refine wpList_store_whole _ rfl 257 _ _ rfl (u2).heap.size _ #[.int .i64 0, .int .i64 0, .int .i64 0, .int .i64 0, .int .u64 0, .int .u64 0, .int .u64 0, .nilFunc] 257 rfl rfl (pBlk_made u2 #[.int .i64 0, .int .i64 0, .int .i64 0, .int .i64 0, .int .u64 0, .int .u64 0, .int .u64 0, .nilFunc] 257) shape_size rfl (by simp [Value.oneCell']) ?_; intro w2 hp2 hb2 hz2; obtain ⟨r0, r1, r2, r3, r4, r5, r6, r7⟩ := cells8 hp2))
      refine (hsg.out _).mono ?_
      rintro e u3 ⟨rfl, hb3⟩
      go_wp2
      rw [hor.out]
      go_ret2
      have hs := Nat.le_trans hb.size hb1.size
      exact ⟨rfl, ((((hb.trans (hb1.mono hb.size)).alloc hs _).trans (hb2.mono hs))).trans (hb3.mono (by simp at hz2; omega))⟩
    · have hv : patV id true key = (-key) % 2 ^ (fW id).toNat := by unfold patV; rw [if_neg (by decide), if_neg hK]
      have han := Lib.hid (pat_and key (fW id).toNat w1)
      have hsg := Lib.hid (fun w => fo_mask (fK id) (fW id) (fM id) (fB id) (fT id) (fI id) (fN id) w (by omega) (by omega))
      have hK' : (fK id == 2) = false := by simp [hK]
      rw [hv]
      replace hK := Lib.hid hK
      clear hv hfT h4 e1 e2 e3
      go_enter Tryz.func140, Tryz.ntmps140
      go_wp2_with fail
      refine (hm.out _ hW).mono ?_
      rintro e u1 ⟨rfl, hb⟩
      go_wp2_with fail
      refine (hfn.out _ (hW.below hb)).mono ?_
      rintro e u2 ⟨rfl, hb1⟩
      go_wp2_with (first | ((with_reducible show wpList _ _ _ (Oper.mk _ (Op.store 257 _ _) _ _ _ _ :: _) _ _); refine wpList_store_whole _ rfl 257 _ _ rfl (u2).heap.size _ #[.int .i64 0, .int .i64 0, .int .i64 0, .int .i64 0, .int .u64 0, .int .u64 0, .int .u64 0, .nilFunc] 257 rfl rfl (pBlk_made u2 #[.int .i64 0, .int .i64 0, .int .i64 0, .int .i64 0, .int .u64 0, .int .u64 0, .int .u64 0, .nilFunc] 257) shape_size rfl (by simp [Value.oneCell']) ?_; intro w2 hp2 hb2 hz2; obtain ⟨r0, r1, r2, r3, r4, r5, r6, r7⟩ := cells8 hp2))
      refine (hsg.out _).mono ?_
      rintro e u3 ⟨rfl, hb3⟩
      go_wp2
      rw [han.out]
      go_ret2
      have hs := Nat.le_trans hb.size hb1.size
      exact ⟨rfl, ((((hb.trans (hb1.mono hb.size)).alloc hs _).trans (hb2.mono hs))).trans (hb3.mono (by simp at hz2; omega))⟩
end Go.Proofs.YtobokaafmcfeaaaGreatDoor
namespace Go.Proofs.YtobokaafmcfeaaaGreatDoor
open Go.RowKit Go.Cal
theorem cell_setRow_other {w : World} {g b o : Nat} {cs : Array Value} (h : b ≠ g) : (w.setRow g cs).cell? ⟨b, o, none⟩ = w.cell? ⟨b, o, none⟩ := by
  unfold World.cell? World.setRow
  simp only [Array.getElem?_modify]
  rw [if_neg (fun e => h e.symm)]
theorem IsT.setRow {w : World} {v : Value} {k N g : Nat} {old cs : Array Value} {t : TypeId} (h : IsT w v k N) (hp : pBlk g old t w) (hy : ∀ x ∈ old.toList, ∀ n, x ≠ .int .u64 n) : IsT (w.setRow g cs) v k N := by
  obtain ⟨A, c, zs, h1, h2, h3⟩ := h
  refine ⟨A, c, zs, h1, ⟨?_, fun b off e j hj => ?_⟩, h3⟩
  · rw [show (w.setRow g cs).heap.size = w.heap.size by simp [World.setRow]]; exact h2.place
  · have hc := h2.cells b off e j hj
    by_cases hb : b = g
    · subst hb
      exfalso
      rw [cell_of_row w b _ _ _ _ hp] at hc
      have hm : Value.int .u64 ((zs.getD j 0 : Nat) : Int) ∈ old.toList := by
        have := Array.mem_of_getElem? hc
        simpa using this
      exact hy _ hm _ rfl
    · rw [cell_setRow_other hb]
      exact hc
theorem wpList_store_keep {P : Program} (w : World) {ops : Array Oper} {rest : List Oper} {o : Oper} {a : Act} {Q : Exit → Act → World → Prop}
    (hg : o.guard = none) (t : TypeId) (p x : Operand) (hop : o.op = Op.store t p x) (g : Nat) (cs old : Array Value) (t' : TypeId)
    (hp : a.eval p = .pointer (some ⟨g, 0, none⟩)) (hx : a.eval x = .agg cs) (hb : pBlk g old t' w)
    (hi : (P.info? t).map (·.size) = some cs.size) (ho : old.size = cs.size) (h1 : cs.all (·.oneCell') = true) (hy : ∀ x ∈ old.toList, ∀ n, x ≠ .int .u64 n)
    (hK : ∀ w' : World, pBlk g cs t' w' → Below g w w' → (∀ v k N, IsT w v k N → IsT w' v k N) → wpList P ops Q rest (a.put o.dst undef) w') :
    wpList P ops Q (o :: rest) a w :=
  wpList_plain hg fun _ hK' => wp_store_row t p x hop g cs hp hx t' old hb hi ho h1
    (hK' _ _ (hK (w.setRow g cs) (setRow_heap w g old cs t' _ hb) (below_setRow (Below.refl _ _) (Nat.le_refl _) cs) (fun _ _ _ h => h.setRow hb hy)))
end Go.Proofs.YtobokaafmcfeaaaGreatDoor
namespace Go.Proofs.YtobokaafmcfeaaaGreatDoor
open Go.RowKit Go.Cal
theorem noU4 (b : Bool) (A : Option Addr) (n c : Nat) (x y : Int) : ∀ z ∈ (#[.bool b, .slice A n c, .int .i64 x, .int .i64 y] : Array Value).toList, ∀ n, z ≠ .int .u64 n := by simp
end Go.Proofs.YtobokaafmcfeaaaGreatDoor
namespace Go.Proofs.YtobokaafmcfeaaaGreatDoor
open Go.RowKit Go.Cal
theorem dec_bigG {N e f : Nat} (h : (Lib.decDigits N).length ≤ e) (hf : 4 * e ≤ 64 * f) : N < 18446744073709551616 ^ f := by
  have h2 := numV_lt (Lib.decDigits N) (dec_digs N)
  rw [numV_dec] at h2
  have h1 : 10 ^ (Lib.decDigits N).length ≤ 10 ^ e := Nat.pow_le_pow_right (by decide) h
  have h3 : 10 ^ e ≤ 16 ^ e := Nat.pow_le_pow_left (by decide) _
  have h4 : (16 : Nat) ^ e = 2 ^ (4 * e) := by rw [Nat.pow_mul]
  have h5 : (18446744073709551616 : Nat) ^ f = 2 ^ (64 * f) := by rw [Nat.pow_mul]
  have h6 : 2 ^ (4 * e) ≤ 2 ^ (64 * f) := Nat.pow_le_pow_right (by decide) hf
  omega
theorem dec_big {N : Nat} (h : (Lib.decDigits N).length ≤ 2000) : N < 18446744073709551616 ^ 128 := dec_bigG h (by decide)
theorem cell_lt {w : World} {a : Addr} {v : Value} (h : w.cell? a = some v) : a.block < w.heap.size := by
  rcases Nat.lt_or_ge a.block w.heap.size with h1 | h1
  · exact h1
  · unfold World.cell? at h
    rw [Array.getElem?_eq_none (by omega)] at h
    cases h
end Go.Proofs.YtobokaafmcfeaaaGreatDoor
namespace Go.Proofs.YtobokaafmcfeaaaGreatDoor
open Go.RowKit Go.Cal
/-- No words, or words in memory from base on. -/
def Fre (base : Nat) (A : Option Addr) (n : Nat) : Prop := n = 0 ∨ ∃ b off, A = some ⟨b, off, none⟩ ∧ base ≤ b
theorem Fre.more {B B' n : Nat} {A : Option Addr} (h : Fre B A n) (hb : B' ≤ B) : Fre B' A n := h.imp id fun ⟨b, off, e, h1⟩ => ⟨b, off, e, Nat.le_trans hb h1⟩
theorem fre_own {w : World} {base c : Nat} {A : Option Addr} {zs : List Nat} (h : GotW w base A c zs) : Fre base A zs.length := by
  rcases h.own with h1 | ⟨b, off, e, h1, -⟩
  · exact .inl (by rw [h1]; rfl)
  · exact .inr ⟨b, off, e, h1⟩
/-- A call tells one number, in new memory. -/
def TellsF (w : World) (k N : Nat) (e : Ending) (w' : World) : Prop := ∃ A n c, e = .returned (.slice A n c) ∧ IsT w' (.slice A n c) k N ∧ Fre w.heap.size A n ∧ Below w.heap.size w w'
def TellsFO (w : World) (k N : Nat) (e : Ending) (w' : World) : Prop := ∃ A n c, e = .returned (.tuple #[.slice A n c, .bool true]) ∧ IsT w' (.slice A n c) k N ∧ Fre w.heap.size A n ∧ Below w.heap.size w w'
section
variable {w : World} {v1 v2 : Value} {k1 k2 X Y : Nat}
theorem tellsF_of_retN {N k : Nat} {e : Ending} {w' : World} (hk : N < 18446744073709551616 ^ k) (hr : RetN w N e w') : TellsF w k N e w' := by
  obtain ⟨A, c, zs, rfl, g, n, hb⟩ := hr
  exact ⟨_, _, _, rfl, .ofW (gotU_toW g) n hk, fre_own (gotU_toW g), hb⟩
theorem tellsF_of_retW {N k : Nat} {e : Ending} {w' : World} (hk : N < 18446744073709551616 ^ k) (hr : RetW w N e w') : TellsF w k N e w' := by
  obtain ⟨A, c, zs, rfl, g, n, hb⟩ := hr
  exact ⟨_, _, _, rfl, .ofW g n hk, fre_own g, hb⟩
theorem add_f (h1 : IsN w v1 k1 X) (h2 : IsN w v2 k2 Y) (b1 : k1 ≤ 1048576) (b2 : k2 ≤ 1048576) : Calls Tryz.prog 212 #[v1, v2] w (TellsF w (max k1 k2 + 1) (X + Y)) := by
  have i1 := h1.lt
  have i2 := h2.lt
  obtain ⟨A1, c1, z1, rfl, r1, hc1, hl1, d1, rfl⟩ := h1
  obtain ⟨A2, c2, z2, rfl, r2, hc2, hl2, d2, rfl⟩ := h2
  refine (add_any c1 c2 w r1 r2 (by omega) (by omega) d1 d2).mono fun e w' hr => tellsF_of_retN ?_ hr
  have e1 : 18446744073709551616 ^ k1 ≤ 18446744073709551616 ^ max k1 k2 := Nat.pow_le_pow_right (by omega) (Nat.le_max_left _ _)
  have e2 : 18446744073709551616 ^ k2 ≤ 18446744073709551616 ^ max k1 k2 := Nat.pow_le_pow_right (by omega) (Nat.le_max_right _ _)
  rw [Nat.pow_succ]
  omega
theorem sub_f (h1 : IsN w v1 k1 X) (h2 : IsN w v2 k2 Y) (b1 : k1 ≤ 1048576) (b2 : k2 ≤ 1048576) (hle : Y ≤ X) : Calls Tryz.prog 181 #[v1, v2] w (TellsFO w k1 (X - Y)) := by
  have i1 := h1.lt
  obtain ⟨A1, c1, z1, rfl, r1, hc1, hl1, d1, rfl⟩ := h1
  obtain ⟨A2, c2, z2, rfl, r2, hc2, hl2, d2, rfl⟩ := h2
  refine (sub_any c1 c2 w r1 r2 hc1 hc2 (by omega) (by omega) d1 d2).mono fun e w' hr => ?_
  unfold RetSub at hr
  rw [if_neg (by omega)] at hr
  obtain ⟨A, c, zs, rfl, g, n, hb⟩ := hr
  exact ⟨_, _, _, rfl, .ofW (gotU_toW g) n (by omega), fre_own (gotU_toW g), hb⟩
theorem shl_f (n : Int) (k' N : Nat) (h1 : IsN w v1 k1 X) (b1 : k1 ≤ 1048576) (hN : X * 2 ^ (min (max n 0) 131072).toNat = N) (hk : N < 18446744073709551616 ^ k') : Calls Tryz.prog 72 #[v1, .int .i64 n] w (TellsF w k' N) := by
  subst hN
  obtain ⟨A1, c1, z1, rfl, r1, hc1, hl1, d1, rfl⟩ := h1
  exact (shl_any c1 n w r1 hc1 (by omega) d1).mono fun e w' hr => tellsF_of_retN hk hr
theorem norm_f (h1 : IsN w v1 k1 X) (b1 : k1 ≤ 1048576) : Calls Tryz.prog 69 #[v1] w (TellsF w k1 X) := by
  have i1 := h1.lt
  obtain ⟨A1, c1, z1, rfl, r1, hc1, hl1, d1, rfl⟩ := h1
  exact (norm_any c1 w r1 hc1 (by omega) d1).mono fun e w' hr => tellsF_of_retW i1 hr
/-- A copy of a number's words. -/
theorem clone_f {A : Option Addr} {n c : Nat} (h : IsT w (.slice A n c) k1 X) (b1 : k1 ≤ 1048576) (hA : A = none → c = 0) : Calls Tryz.prog 100 #[.slice A n c] w (TellsF w k1 X) := by
  obtain ⟨A1, c1, z1, e, r1, hc1, hl1, hk, nr⟩ := h
  injection e with e1 e2 e3
  subst e1; subst e2; subst e3
  refine (clone_any c w r1 (by omega) hA).mono ?_
  rintro e w' ⟨A', c', rfl, g, hb⟩
  exact ⟨_, _, _, rfl, ⟨_, _, _, rfl, g.rd, g.cap, g.small, hk, nr⟩, fre_own g, hb⟩
end
end Go.Proofs.YtobokaafmcfeaaaGreatDoor
