/- Values: the numbers of magnitudes, walked. Conditions: the variables that values read. -/
/- Values: At, Between, Pattern, walked. Conditions: the variables that values read. -/
/- Values: Pattern, walked. Conditions: the variables that values read. -/
/- A whole struct stored into a block of its own, numbers kept: a law at the operation. Conditions: none. -/
/- A whole struct stored into a block of its own, all else kept: a law at the operation. Conditions: none. -/
/- A struct with a word of noughts, stored whole: numbers kept. Conditions: none. -/
/- Four cells stored into a part of a block, all else kept: a law at the operation. Conditions: none. -/
import Derived.Test.YtncfbleeidjflaaGreatDoorPz20
import Derived.Test.YtncfbleeidjflaaGreatDoorPz06
import Derived.Test.YtncfbleeidjflaaGreatDoorPz19
namespace Go.Proofs.YtncfbleeidjflaaGreatDoor
open Go.RowKit Go.Cal
set_option maxRecDepth 100000 in
set_option maxHeartbeats 1000000 in
theorem vodd_any (m : Nat) (e : Int) (hm : m < 18446744073709551616) (he : -100000 ≤ e ∧ e ≤ 100000) (w : World) (hT : TabD w) :
    Calls Tryz.prog 260 #[.int .u64 m, .int .i64 e] w fun x w' => x = .returned (.tuple #[.int .u64 ((oddP 64 m e).1 : Nat), .int .i64 (oddP 64 m e).2]) ∧ w = w' := by
  by_cases h0 : m = 0
  · have hv : oddP 64 m e = (0, 0) := by unfold oddP; rw [if_pos h0]
    rw [hv]
    subst h0
    go_enter Tryz.func260, Tryz.ntmps260
    go_wp2
    go_ret2
    exact ⟨rfl, rfl⟩
  · have hk := tzN_lt 64 m (by omega) (by omega)
    have hv : oddP 64 m e = (m / 2 ^ tzN 64 m, e + tzN 64 m) := by unfold oddP; rw [if_neg h0]
    have htz := Lib.hid (tz_any m (by omega) hm w hT)
    have h0' : ((m : Int) == 0) = false := by simp; omega
    obtain ⟨k, hk'⟩ : ∃ k, tzN 64 m = k := ⟨_, rfl⟩
    rw [hv]
    rw [hk'] at hk htz ⊢
    clear hv hk'
    go_enter Tryz.func260, Tryz.ntmps260
    go_wp2_with fail
    refine htz.out.mono ?_
    rintro x w1 ⟨rfl, rfl⟩
    go_wp2
    go_ret2
    exact ⟨rfl, rfl⟩
theorem wrap64_id {x : Int} (h1 : -1000000 ≤ x) (h2 : x ≤ 1000000) : wrap64 x = x := by
  unfold wrap64
  omega
theorem fo_wide {id : Int} (h1 : 1 ≤ id) (h2 : id < 15) : (fW id).toNat ≤ 64 ∧ 4 ≤ (fW id).toNat ∧ (fM id).toNat ≤ 52 ∧ (fB id).toNat ≤ 1023 ∧ fW id = ((fW id).toNat : Int) ∧ fM id = ((fM id).toNat : Int) ∧ fB id = ((fB id).toNat : Int) := by
  rcases id_cases h1 h2 with rfl | rfl | rfl | rfl | rfl | rfl | rfl | rfl | rfl | rfl | rfl | rfl | rfl | rfl <;> decide +kernel
/-- May a magnitude of a form with so many bits more be? -/
structure MagOk (id : Int) (more key : Nat) : Prop where
  few : more ≤ 1
  word : key < 18446744073709551616
  one : fK id = 1 → 0 < key ∧ key < 2 ^ ((fW id).toNat + more - 1)
  two : fK id = 2 → key / 2 ^ ((fM id).toNat + more) ≤ 4095
  four : fK id = 4 → key < 10000
theorem below_drewN (w : World) (n : Nat) : Below w.heap.size w (w.drewN n) := ⟨rfl, rfl, rfl, Nat.le_refl _, fun _ _ => rfl⟩
set_option maxRecDepth 100000 in
set_option maxHeartbeats 1000000 in
theorem num_any (id : Int) (h1 : 1 ≤ id) (h2 : id < 15) (more key : Nat) (mo ky : Int) (hmo : mo = more) (hky : ky = key) (hok : MagOk id more key) (w : World) (hW : VaW w) :
    Calls Tryz.prog (numI (fK id)) #[.agg #[.int .i64 (fK id), .int .i64 (fW id), .int .i64 (fM id), .int .i64 (fB id), .int .u64 (fT id), .int .u64 (fI id), .int .u64 (fN id)], .int .i64 mo, .int .u64 ky] w fun e w' => e = .returned (.tuple #[.int .u64 ((magV id more key).1 : Nat), .int .i64 (magV id more key).2]) ∧ Below w.heap.size w w' := by
  subst hmo; subst hky
  obtain ⟨w1, w2, w3, w4, e1, e2, e3⟩ := fo_wide h1 h2
  obtain ⟨k0, k1, k2, k3, k4⟩ := hok
  have hKc : fK id = 1 ∨ fK id = 2 ∨ fK id = 3 ∨ fK id = 4 := by have := fK_bnd id; omega
  rcases hKc with hK | hK | hK | hK
  · have hI : numI (fK id) = 255 := by rw [hK]; rfl
    obtain ⟨n, hn⟩ : ∃ n, (fW id).toNat + more - 1 = n := ⟨_, rfl⟩
    have hk := k2 hK
    rw [hn] at hk
    have hv : magV id more key = oddP 64 (poF (poL n key) (key % 2 ^ poL n key)) (4 * poR n key + poE (poL n key) (key % 2 ^ poL n key) - (poL n key - 2 : Nat)) := by
      unfold magV numQ
      rw [hK, hn]
      rfl
    have hpv := pvalue_any n key (by omega) (by omega) hk.1 hk.2
    rw [← hv] at hpv
    have hw : (n : Int) + 1 = fW id + more := by omega
    rw [hw] at hpv
    generalize magV id more key = p at hpv hv ⊢
    obtain ⟨mv, ev⟩ := p
    replace hpv := Lib.hid hpv
    rw [hI]
    clear hv hw hn hI k2 k3 k4
    have hb0 : -9223372036854775808 ≤ fW id + more ∧ fW id + more ≤ 9223372036854775807 := by omega
    replace hK := Lib.hid hK
    clear e1 e2 e3
    obtain ⟨hb0, hb1⟩ := hb0
    go_enter Tryz.func255, Tryz.ntmps255
    go_wp2_with fail
    refine (hpv.out _ (hW.bru.below ((Below.refl _ _).alloc (Nat.le_refl _) _))).mono ?_
    rintro e u1 ⟨rfl, hb⟩
    go_wp2
    go_ret2
    exact ⟨rfl, ((Below.refl _ _).alloc (Nat.le_refl _) _).trans (hb.mono (by simp))⟩
  · have hI : numI (fK id) = 257 := by rw [hK]; rfl
    have hv : magV id more key = oddP 64 (miM ((fM id).toNat + more) key) ((miE ((fM id).toNat + more) key : Int) - (fB id).toNat - ((fM id).toNat + more : Nat)) := by
      unfold magV numQ
      rw [hK]
      rfl
    have hpv := mvalue_any ((fM id).toNat + more) (fB id).toNat key (by omega) (by omega) k1 (k3 hK)
    rw [← hv, show (((fM id).toNat + more : Nat) : Int) = fM id + more by omega, ← e3] at hpv
    generalize magV id more key = p at hpv hv ⊢
    obtain ⟨mv, ev⟩ := p
    replace hpv := Lib.hid hpv
    rw [hI]
    clear hv hI k2 k3 k4
    have hb0 : -9223372036854775808 ≤ fM id + more ∧ fM id + more ≤ 9223372036854775807 := by omega
    replace hK := Lib.hid hK
    clear e1 e2 e3
    obtain ⟨hb0, hb1⟩ := hb0
    go_enter Tryz.func257, Tryz.ntmps257
    go_wp2_with fail
    refine (hpv.out _ (hW.bru.below ((Below.refl _ _).alloc (Nat.le_refl _) _))).mono ?_
    rintro e u1 ⟨rfl, hb⟩
    go_wp2
    go_ret2
    exact ⟨rfl, ((Below.refl _ _).alloc (Nat.le_refl _) _).trans (hb.mono (by simp))⟩
  · have hI : numI (fK id) = 259 := by rw [hK]; rfl
    have hv : magV id more key = oddP 64 key (-((fM id).toNat + more : Nat)) := by
      unfold magV numQ
      rw [hK]
      rfl
    have hpv := vodd_any key (-((fM id).toNat + more : Nat)) k1 (by omega)
    rw [← hv, show (-(((fM id).toNat + more : Nat) : Int)) = -fM id - more by omega] at hpv
    generalize magV id more key = p at hpv hv ⊢
    obtain ⟨mv, ev⟩ := p
    replace hpv := Lib.hid hpv
    rw [hI]
    clear hv hI k2 k3 k4
    have hb0 : 0 ≤ fM id ∧ fM id ≤ 52 := by omega
    replace hK := Lib.hid hK
    clear e1 e2 e3
    obtain ⟨hb0, hb1⟩ := hb0
    go_enter Tryz.func259, Tryz.ntmps259
    go_wp2_with fail
    refine (hpv.out _ (hW.bru.below ((Below.refl _ _).alloc (Nat.le_refl _) _))).mono ?_
    rintro e u1 ⟨rfl, rfl⟩
    go_wp2
    go_ret2
    exact ⟨rfl, ((Below.refl _ _).alloc (Nat.le_refl _) _)⟩
  · have hI : numI (fK id) = 261 := by rw [hK]; rfl
    have hk := k4 hK
    have hv : magV id more key = (1 + 2 * more, ((key / 2 ^ more : Nat) : Int) - (fB id).toNat - more) := by
      unfold magV numQ
      rw [hK]
      exact oddP_odd 64 (1 + 2 * more) _ (by omega)
    rw [hI, hv]
    clear hv hI k2 k3 k4
    have hb0 : 0 ≤ fB id ∧ fB id ≤ 1023 := by omega
    obtain ⟨hb0, hb1⟩ := hb0
    replace hK := Lib.hid hK
    have hwz := Lib.hid (show wrap64 (wrap64 (wrap64 ((key : Int) / 2 ^ more) - fB id) - (more : Int)) = ((key / 2 ^ more : Nat) : Int) - (fB id).toNat - more by
      have e4 : (key : Int) / 2 ^ more = ((key / 2 ^ more : Nat) : Int) := by push_cast; rfl
      have e5 : key / 2 ^ more ≤ key := Nat.div_le_self _ _
      rw [e4]
      generalize key / 2 ^ more = q at e5 ⊢
      have f1 : 0 ≤ (q : Int) ∧ (q : Int) < 10000 := by omega
      rw [wrap64_id (x := (q : Int)) (by omega) (by omega), wrap64_id (x := (q : Int) - fB id) (by omega) (by omega), wrap64_id (by omega) (by omega)]
      omega)
    clear e1 e2 e3
    go_enter Tryz.func261, Tryz.ntmps261
    go_wp2_with fail
    go_quiet (fail)
    go_wp2
    rw [hwz.out]
    go_ret2
    exact ⟨by push_cast; rfl, ((Below.refl _ _).alloc (Nat.le_refl _) _).trans ((below_drewN _ _).mono (by simp))⟩
end Go.Proofs.YtncfbleeidjflaaGreatDoor
namespace Go.Proofs.YtncfbleeidjflaaGreatDoor
open Go.RowKit Go.Cal
theorem pBlk_keep {g h : Nat} {cs : Array Value} {t : TypeId} {w w' : World} (hp : pBlk g cs t w) (hb : Below h w w') (hg : g < h) : pBlk g cs t w' := by
  unfold pBlk
  rw [hb.block g hg]
  exact hp
def fitM (id : Int) : Int := if fK id = 3 then fT id + 1 else fT id
theorem fitM_cases {id : Int} (h1 : 1 ≤ id) (h2 : id < 15) : ((fK id == 3) = true ∧ 0 ≤ fT id ∧ fT id ≤ 127 ∧ fitM id = fT id + 1) ∨ ((fK id == 3) = false ∧ fitM id = fT id) := by
  rcases id_cases h1 h2 with rfl | rfl | rfl | rfl | rfl | rfl | rfl | rfl | rfl | rfl | rfl | rfl | rfl | rfl <;> decide +kernel
set_option maxRecDepth 100000 in
set_option maxHeartbeats 1000000 in
theorem vfits_yes (id : Int) (h1 : 1 ≤ id) (h2 : id < 15) (key : Int) (hk : key ≤ fitM id) (w : World) (hW : VaW w) :
    Calls Tryz.prog 206 #[.int .i64 id, .int .u64 key] w fun e w' => e = .returned (.tuple #[.agg #[.int .i64 (fK id), .int .i64 (fW id), .int .i64 (fM id), .int .i64 (fB id), .int .u64 (fT id), .int .u64 (fI id), .int .u64 (fN id), .func (.func (numI (fK id))) #[] #[]], .int .i64 0]) ∧ Below w.heap.size w w' := by
  have hfn := Lib.hid (fun w hW => vof_yes id h1 h2 w hW)
  rcases fitM_cases h1 h2 with ⟨h3, hT, hT', hM⟩ | ⟨h3, hM⟩
  all_goals
    rw [hM] at hk
    have hng : ¬ key > fT id + 1 ∨ ¬ key > fT id := by omega
    clear hM hng
    go_enter Tryz.func206, Tryz.ntmps206
    go_wp2_with fail
    refine (hfn.out _ (hW.below ((Below.refl _ _).alloc (Nat.le_refl _) _))).mono ?_
    rintro e w1 ⟨rfl, hb⟩
    have hz := hb.size
    simp at hz
    have hB : Below w.heap.size w w1 := ((Below.refl _ _).alloc (Nat.le_refl _) _).trans (hb.mono (by simp))
    have hp1 := pBlk_st _ _ _ _ _ (pBlk_st _ _ _ _ _ (pBlk_made w #[.int .i64 0, .int .i64 0, .int .i64 0, .int .i64 0, .int .u64 0, .int .u64 0, .int .u64 0, .nilFunc] 190) hb) ((Below.refl _ _).alloc (Nat.le_refl _) (.cells #[.int .i64 0, .int .i64 0, .int .i64 0, .int .i64 0, .int .u64 0, .int .u64 0, .int .u64 0, .nilFunc] 190))
    go_wp2_with (first
      | ((with_reducible show wpList _ _ _ (Oper.mk _ (Op.store 190 _ _) _ _ _ _ :: _) _ _); refine wpList_store_whole _ rfl 190 _ _ rfl w1.heap.size #[.int .i64 (fK id), .int .i64 (fW id), .int .i64 (fM id), .int .i64 (fB id), .int .u64 (fT id), .int .u64 (fI id), .int .u64 (fN id), .func (.func (numI (fK id))) #[] #[]] #[.int .i64 0, .int .i64 0, .int .i64 0, .int .i64 0, .int .u64 0, .int .u64 0, .int .u64 0, .nilFunc] 190 rfl rfl (pBlk_made w1 #[.int .i64 0, .int .i64 0, .int .i64 0, .int .i64 0, .int .u64 0, .int .u64 0, .int .u64 0, .nilFunc] 190) shape_size rfl (by simp [Value.oneCell']) ?_; intro w2 hp2 hb2 hz2; obtain ⟨r0, r1, r2, r3, r4, r5, r6, r7⟩ := cells8 hp2; have hp0 := pBlk_keep hp1 hb2 (by omega))
      | ((with_reducible show wpList _ _ _ (Oper.mk _ (Op.store 190 _ _) _ _ _ _ :: _) _ _); refine wpList_store_whole _ rfl 190 _ _ rfl w.heap.size #[.int .i64 (fK id), .int .i64 (fW id), .int .i64 (fM id), .int .i64 (fB id), .int .u64 (fT id), .int .u64 (fI id), .int .u64 (fN id), .func (.func (numI (fK id))) #[] #[]] #[.int .i64 0, .int .i64 0, .int .i64 0, .int .i64 0, .int .u64 0, .int .u64 0, .int .u64 0, .nilFunc] 190 rfl rfl hp0 shape_size rfl (by simp [Value.oneCell']) ?_; intro w3 hp3 hb3 hz3; obtain ⟨s0, s1, s2, s3, s4, s5, s6, s7⟩ := cells8 hp3))
    have hB3 : Below w.heap.size w w3 := ((hB.alloc hB.size _).trans (hb2.mono hB.size)).trans hb3
    exact bodyPost_ret (v := .tuple #[.agg #[.int .i64 (fK id), .int .i64 (fW id), .int .i64 (fM id), .int .i64 (fB id), .int .u64 (fT id), .int .u64 (fI id), .int .u64 (fN id), .func (.func (numI (fK id))) #[] #[]], .int .i64 0]) (by simp [results, Tryz.results206, go_sem, s0, s1, s2, s3, s4, s5, s6, s7]) rfl ⟨rfl, hB3⟩
theorem numI_cases (k : Int) : numI k = 255 ∨ numI k = 257 ∨ numI k = 259 ∨ numI k = 261 := by
  unfold numI
  split
  · exact .inl rfl
  · split
    · exact .inr (.inl rfl)
    · split
      · exact .inr (.inr (.inl rfl))
      · exact .inr (.inr (.inr rfl))
theorem mag_tab {id : Int} (h1 : 1 ≤ id) (h2 : id < 15) : 0 ≤ fitM id ∧ 2 * (fitM id).toNat + 1 < 18446744073709551616 ∧ (fK id = 1 → 2 * (fitM id).toNat + 1 < 2 ^ ((fW id).toNat + 1 - 1) ∧ (fitM id).toNat < 2 ^ ((fW id).toNat + 0 - 1)) ∧
    (fK id = 2 → (2 * (fitM id).toNat + 1) / 2 ^ ((fM id).toNat + 1) ≤ 4095 ∧ (fitM id).toNat / 2 ^ ((fM id).toNat + 0) ≤ 4095) ∧ (fK id = 4 → 2 * (fitM id).toNat + 1 < 10000) := by
  rcases id_cases h1 h2 with rfl | rfl | rfl | rfl | rfl | rfl | rfl | rfl | rfl | rfl | rfl | rfl | rfl | rfl <;> decide +kernel
theorem mag_half {id : Int} {key : Nat} (h1 : 1 ≤ id) (h2 : id < 15) (hk : (key : Int) ≤ fitM id) : MagOk id 1 (2 * key + 1) := by
  obtain ⟨a, b, c, d, e⟩ := mag_tab h1 h2
  have hk' : key ≤ (fitM id).toNat := by omega
  refine ⟨by decide, by omega, fun h => ⟨by omega, by have := (c h).1; omega⟩, fun h => ?_, fun h => by have := e h; omega⟩
  exact Nat.le_trans (Nat.div_le_div_right (by omega)) (d h).1
theorem mag_own {id : Int} {key : Nat} (h1 : 1 ≤ id) (h2 : id < 15) (hk : (key : Int) ≤ fitM id) (h0 : fK id = 1 → 0 < key) : MagOk id 0 key := by
  obtain ⟨a, b, c, d, e⟩ := mag_tab h1 h2
  have hk' : key ≤ (fitM id).toNat := by omega
  refine ⟨by decide, by omega, fun h => ⟨h0 h, by have := (c h).2; omega⟩, fun h => ?_, fun h => by have := e h; omega⟩
  exact Nat.le_trans (Nat.div_le_div_right (by omega)) (d h).2
set_option maxRecDepth 100000 in
set_option maxHeartbeats 1000000 in
theorem vbetween_any (id : Int) (h1 : 1 ≤ id) (h2 : id < 15) (key : Nat) (hk : (key : Int) ≤ fitM id) (w : World) (hW : VaW w) :
    Calls Tryz.prog 180 #[.int .i64 id, .int .u64 key] w fun e w' => e = .returned (.tuple #[.int .u64 ((magV id 1 (2 * key + 1)).1 : Nat), .int .i64 (magV id 1 (2 * key + 1)).2, .int .i64 0]) ∧ Below w.heap.size w w' := by
  have hft := Lib.hid (fun w hW => vfits_yes id h1 h2 key hk w hW)
  have hok := mag_half h1 h2 hk
  have hlt := hok.word
  have hnm := fun w hW => num_any id h1 h2 1 (2 * key + 1) 1 (2 * key + 1) rfl (by push_cast; rfl) hok w hW
  generalize magV id 1 (2 * key + 1) = p at hnm ⊢
  obtain ⟨mv, ev⟩ := p
  clear hok hk
  rcases numI_cases (fK id) with hI | hI | hI | hI
  all_goals
    rw [hI] at hnm hft
    replace hnm := Lib.hid hnm
    go_enter Tryz.func180, Tryz.ntmps180
    go_wp2_with fail
    refine (hft.out _ hW).mono ?_
    rintro e w1 ⟨rfl, hb⟩
    go_wp2_with (first | ((with_reducible show wpList _ _ _ (Oper.mk _ (Op.store 190 _ _) _ _ _ _ :: _) _ _); refine wpList_store_whole _ rfl 190 _ _ rfl (w1).heap.size _ #[.int .i64 0, .int .i64 0, .int .i64 0, .int .i64 0, .int .u64 0, .int .u64 0, .int .u64 0, .nilFunc] 190 rfl rfl (pBlk_made w1 #[.int .i64 0, .int .i64 0, .int .i64 0, .int .i64 0, .int .u64 0, .int .u64 0, .int .u64 0, .nilFunc] 190) shape_size rfl (by simp [Value.oneCell']) ?_; intro w2 hp2 hb2 hz2; obtain ⟨r0, r1, r2, r3, r4, r5, r6, r7⟩ := cells8 hp2))
    have hB : Below w.heap.size w w2 := (hb.alloc hb.size _).trans (hb2.mono hb.size)
    refine (hnm.out _ (hW.below hB)).mono ?_
    rintro e w3 ⟨rfl, hb3⟩
    go_wp2
    go_ret3
    exact ⟨rfl, hB.trans (hb3.mono hB.size)⟩
end Go.Proofs.YtncfbleeidjflaaGreatDoor
namespace Go.Proofs.YtncfbleeidjflaaGreatDoor
open Go.RowKit Go.Cal
theorem pat_and (key : Int) (n : Nat) (hn : n ≤ 64) : bits BinOp.and IntKind.u64 (IntKind.u64.wrap (-key)) (2 ^ n - 1) = (-key) % 2 ^ n := by
  obtain ⟨x, hx⟩ : ∃ x : Nat, (-key) % 18446744073709551616 = (x : Int) := ⟨((-key) % 18446744073709551616).toNat, by omega⟩
  have hxl : x < 18446744073709551616 := by omega
  have e1 : (2 : Int) ^ n - 1 = ((2 ^ n - 1 : Nat) : Int) := by
    have := Nat.one_le_two_pow (n := n)
    push_cast [this]; rfl
  have h3 : 2 ^ n ≤ 2 ^ 64 := Nat.pow_le_pow_right (by decide) hn
  have h4 := Nat.two_pow_pos n
  rw [wrap_u64, hx, e1, bits_and_u64_nat _ _ hxl (by omega), Nat.and_two_pow_sub_one_eq_mod]
  push_cast
  rw [← hx]
  have hd : (2 : Int) ^ n ∣ 18446744073709551616 := by
    refine ⟨2 ^ (64 - n), ?_⟩
    rw [← Int.pow_add, show n + (64 - n) = 64 by omega]
    rfl
  exact Int.emod_emod_of_dvd _ hd
end Go.Proofs.YtncfbleeidjflaaGreatDoor
namespace Go.Proofs.YtncfbleeidjflaaGreatDoor
open Go.RowKit Go.Cal
theorem cell_setRow_other {w : World} {g b o : Nat} {cs : Array Value} (h : b ≠ g) : (w.setRow g cs).cell? ⟨b, o, none⟩ = w.cell? ⟨b, o, none⟩ := by
  unfold World.cell? World.setRow
  simp only [Array.getElem?_modify]
  rw [if_neg (fun e => h e.symm)]
theorem IsT.setRow {w : World} {v : Value} {k N g : Nat} {old cs : Array Value} {t : TypeId} (h : IsT w v k N) (hp : pBlk g old t w) (hy : ∀ x ∈ old.toList, ∀ n, x ≠ .int .u64 n) : IsT (w.setRow g cs) v k N := by
  obtain ⟨A, c, zs, h1, h2, h3⟩ := h
  refine ⟨A, c, zs, h1, ⟨?_, fun b off e j hj => ?_⟩, h3⟩
  · rw [show (w.setRow g cs).heap.size = w.heap.size by simp [World.setRow]]; exact h2.place
  · have hc := h2.cells b off e j hj
    by_cases hb : b = g
    · subst hb
      exfalso
      rw [cell_of_row w b _ _ _ _ hp] at hc
      have hm : Value.int .u64 ((zs.getD j 0 : Nat) : Int) ∈ old.toList := by
        have := Array.mem_of_getElem? hc
        simpa using this
      exact hy _ hm _ rfl
    · rw [cell_setRow_other hb]
      exact hc
theorem wpList_store_keep {P : Program} (w : World) {ops : Array Oper} {rest : List Oper} {o : Oper} {a : Act} {Q : Exit → Act → World → Prop}
    (hg : o.guard = none) (t : TypeId) (p x : Operand) (hop : o.op = Op.store t p x) (g : Nat) (cs old : Array Value) (t' : TypeId)
    (hp : a.eval p = .pointer (some ⟨g, 0, none⟩)) (hx : a.eval x = .agg cs) (hb : pBlk g old t' w)
    (hi : (P.info? t).map (·.size) = some cs.size) (ho : old.size = cs.size) (h1 : cs.all (·.oneCell') = true) (hy : ∀ x ∈ old.toList, ∀ n, x ≠ .int .u64 n)
    (hK : ∀ w' : World, pBlk g cs t' w' → Below g w w' → (∀ v k N, IsT w v k N → IsT w' v k N) → wpList P ops Q rest (a.put o.dst undef) w') :
    wpList P ops Q (o :: rest) a w :=
  wpList_plain hg fun _ hK' => wp_store_row t p x hop g cs hp hx t' old hb hi ho h1
    (hK' _ _ (hK (w.setRow g cs) (setRow_heap w g old cs t' _ hb) (below_setRow (Below.refl _ _) (Nat.le_refl _) cs) (fun _ _ _ h => h.setRow hb hy)))
end Go.Proofs.YtncfbleeidjflaaGreatDoor
namespace Go.Proofs.YtncfbleeidjflaaGreatDoor
open Go.RowKit Go.Cal
theorem wpList_store_each {P : Program} (w : World) {ops : Array Oper} {rest : List Oper} {o : Oper} {a : Act} {Q : Exit → Act → World → Prop}
    (hg : o.guard = none) (t : TypeId) (p x : Operand) (hop : o.op = Op.store t p x) (g : Nat) (cs old : Array Value) (t' : TypeId)
    (hp : a.eval p = .pointer (some ⟨g, 0, none⟩)) (hx : a.eval x = .agg cs) (hb : pBlk g old t' w)
    (hi : (P.info? t).map (·.size) = some cs.size) (ho : old.size = cs.size) (h1 : cs.all (·.oneCell') = true) (hy : ∀ x ∈ old.toList, ∀ n, x ≠ .int .u64 n)
    (hK : ∀ w' : World, pBlk g cs t' w' → Below g w w' → w'.heap.size = w.heap.size → (∀ v k N, IsT w v k N → IsT w' v k N) → (∀ h cs' t'', h ≠ g → pBlk h cs' t'' w → pBlk h cs' t'' w') → wpList P ops Q rest (a.put o.dst undef) w') :
    wpList P ops Q (o :: rest) a w :=
  wpList_plain hg fun _ hK' => wp_store_row t p x hop g cs hp hx t' old hb hi ho h1
    (hK' _ _ (hK (w.setRow g cs) (setRow_heap w g old cs t' _ hb) (below_setRow (Below.refl _ _) (Nat.le_refl _) cs) (by simp [World.setRow]) (fun _ _ _ h => h.setRow hb hy) (fun h cs' t'' hne hh => by
      unfold pBlk at hh ⊢
      rw [setRow_other w g h cs hne]; exact hh)))
/-- What stands in a cell is set there again. -/
theorem setCell_self {w : World} {g : Nat} {cs : Array Value} {t : TypeId} (h : pBlk g cs t w) (i : Nat) (v : Value) (hv : cs[i]? = some v) : w.setCell ⟨g, i, none⟩ v = w := by
  have hcs : cs.setIfInBounds i v = cs := by
    refine Array.ext_getElem? fun j => ?_
    rw [Array.getElem?_setIfInBounds]
    split
    · rename_i e
      subst e
      split
      · exact hv.symm
      · rename_i hn; rw [Array.getElem?_eq_none (by omega)]
    · rfl
  have hh : (w.setCell ⟨g, i, none⟩ v).heap = w.heap := by
    refine Array.ext_getElem? fun k => ?_
    unfold World.setCell
    simp only [Array.getElem?_modify]
    by_cases hk : g = k
    · subst hk
      rw [if_pos rfl]
      unfold pBlk at h
      rw [h]
      show some (Obj.cells (cs.setIfInBounds i v) t (0, 0)) = _
      rw [hcs]
    · rw [if_neg hk]
  unfold World.setCell at hh ⊢
  simp only at hh
  rw [hh]
theorem self4 {w : World} {g : Nat} {a b c d : Value} {t : TypeId} (h : pBlk g #[a, b, c, d] t w) : w.setCell ⟨g, 0, none⟩ a = w ∧ w.setCell ⟨g, 1, none⟩ b = w ∧ w.setCell ⟨g, 2, none⟩ c = w ∧ w.setCell ⟨g, 3, none⟩ d = w :=
  ⟨setCell_self h 0 _ rfl, setCell_self h 1 _ rfl, setCell_self h 2 _ rfl, setCell_self h 3 _ rfl⟩
theorem noU4 (b : Bool) (A : Option Addr) (n c : Nat) (x y : Int) : ∀ z ∈ (#[.bool b, .slice A n c, .int .i64 x, .int .i64 y] : Array Value).toList, ∀ n, z ≠ .int .u64 n := by simp
end Go.Proofs.YtncfbleeidjflaaGreatDoor
namespace Go.Proofs.YtncfbleeidjflaaGreatDoor
open Go.RowKit Go.Cal
theorem IsT.setRowV {w : World} {v : Value} {k N g : Nat} {cs : Array Value} {t : TypeId} {a c : Int} {b : Bool} (h : IsT w v k N) (hp : pBlk g #[.int .i64 a, .bool b, .int .u64 0, .int .i64 c] t w) : IsT (w.setRow g cs) v k N := by
  obtain ⟨A, cc, zs, h1, h2, h3, h4, h5, h6⟩ := h
  refine ⟨A, cc, zs, h1, ⟨?_, fun bb off e j hj => ?_⟩, h3, h4, h5, h6⟩
  · rw [show (w.setRow g cs).heap.size = w.heap.size by simp [World.setRow]]; exact h2.place
  · have hc := h2.cells bb off e j hj
    by_cases hb : bb = g
    · exfalso
      subst hb
      have key : ∀ i, i < zs.length → off + i = 2 ∧ zs.getD i 0 = 0 := by
        intro i hi
        have hci := h2.cells bb off e i hi
        rw [cell_of_row w bb _ _ _ _ hp] at hci
        have hlt : off + i < 4 := by
          rcases Nat.lt_or_ge (off + i) 4 with h | h
          · exact h
          · rw [Array.getElem?_eq_none (by simpa using h)] at hci; cases hci
        obtain ⟨o, ho⟩ : ∃ o, off + i = o := ⟨_, rfl⟩
        obtain ⟨z, hz⟩ : ∃ z, zs.getD i 0 = z := ⟨_, rfl⟩
        rw [ho] at hci hlt ⊢
        rw [hz] at hci ⊢
        match o, hlt, hci with
        | 0, _, hci => simp at hci
        | 1, _, hci => simp at hci
        | 2, _, hci => simp at hci; exact ⟨rfl, by omega⟩
        | 3, _, hci => simp at hci
      have hne : zs ≠ [] := by intro h0; subst h0; simp at hj
      have ht := h6.top hne
      have k1 := key (zs.length - 1) (by omega)
      rw [List.getLast_eq_getElem] at ht
      have k2 := k1.2
      rw [List.getD_eq_getElem?_getD, List.getElem?_eq_getElem (by omega)] at k2
      exact ht (by simpa using k2)
    · rw [cell_setRow_other hb]
      exact hc
/-- Four cells set one behind the other: the whole struct. -/
theorem setRow4 {w : World} {g : Nat} {o0 o1 o2 o3 : Value} {t : TypeId} (h : pBlk g #[o0, o1, o2, o3] t w) (a b c d : Value) :
    (((w.setCell ⟨g, 0, none⟩ a).setCell ⟨g, 1, none⟩ b).setCell ⟨g, 2, none⟩ c).setCell ⟨g, 3, none⟩ d = w.setRow g #[a, b, c, d] := by
  have h4 : pBlk g #[a, b, c, d] t ((((w.setCell ⟨g, 0, none⟩ a).setCell ⟨g, 1, none⟩ b).setCell ⟨g, 2, none⟩ c).setCell ⟨g, 3, none⟩ d) := pBlk.setX (pBlk.setX (pBlk.setX (pBlk.setX h 0 a) 1 b) 2 c) 3 d
  have hoth : ∀ (W : World) (i k : Nat) (v : Value), g ≠ k → (W.setCell ⟨g, i, none⟩ v).heap[k]? = W.heap[k]? := by
    intro W i k v hk
    unfold World.setCell
    simp only [Array.getElem?_modify]
    rw [if_neg hk]
  have hh : ((((w.setCell ⟨g, 0, none⟩ a).setCell ⟨g, 1, none⟩ b).setCell ⟨g, 2, none⟩ c).setCell ⟨g, 3, none⟩ d).heap = (w.setRow g #[a, b, c, d]).heap := by
    refine Array.ext_getElem? fun k => ?_
    by_cases hk : g = k
    · subst hk
      rw [setRow_heap w g _ _ t _ h]
      exact h4
    · rw [setRow_other w g k _ (fun e => hk e.symm), hoth _ _ _ _ hk, hoth _ _ _ _ hk, hoth _ _ _ _ hk, hoth _ _ _ _ hk]
  unfold World.setRow at hh ⊢
  unfold World.setCell at hh ⊢
  simp only at hh ⊢
  rw [hh]
/-- Two structs stored one behind the other. -/
theorem two_rows {w : World} {g0 g1 : Nat} {t0 t1 : TypeId} {a0 c0 : Int} {b0 : Bool} {x0 x1 x2 x3 : Value} (p0 : pBlk g0 #[.int .i64 a0, .bool b0, .int .u64 0, .int .i64 c0] t0 w) (p1 : pBlk g1 #[x0, x1, x2, x3] t1 w) (hne : g1 ≠ g0) (hy : ∀ x ∈ (#[x0, x1, x2, x3] : Array Value).toList, ∀ n, x ≠ .int .u64 n) (a b c d a' b' c' d' : Value) :
    ∃ w', (((((((w.setCell ⟨g0, 0, none⟩ a).setCell ⟨g0, 1, none⟩ b).setCell ⟨g0, 2, none⟩ c).setCell ⟨g0, 3, none⟩ d).setCell ⟨g1, 0, none⟩ a').setCell ⟨g1, 1, none⟩ b').setCell ⟨g1, 2, none⟩ c').setCell ⟨g1, 3, none⟩ d' = w' ∧
      pBlk g0 #[a, b, c, d] t0 w' ∧ pBlk g1 #[a', b', c', d'] t1 w' ∧ (∀ v k N, IsT w v k N → IsT w' v k N) ∧ (∀ B, B ≤ g0 → B ≤ g1 → Below B w w') := by
  have p1' : pBlk g1 #[x0, x1, x2, x3] t1 (w.setRow g0 #[a, b, c, d]) := by
    unfold pBlk at p1 ⊢
    rw [setRow_other w g0 g1 _ hne]; exact p1
  have e1 := setRow4 p0 a b c d
  rw [e1, setRow4 p1' a' b' c' d']
  refine ⟨_, rfl, ?_, ?_, fun v k N h => (h.setRowV p0).setRow p1' hy, fun B h0 h1 => below_setRow (below_setRow (Below.refl _ _) h0 _) h1 _⟩
  · unfold pBlk
    rw [setRow_other _ g1 g0 _ (fun e => hne e.symm), setRow_heap w g0 _ _ t0 _ p0]
  · exact setRow_heap _ g1 _ _ t1 _ p1'
end Go.Proofs.YtncfbleeidjflaaGreatDoor
namespace Go.Proofs.YtncfbleeidjflaaGreatDoor
open Go.RowKit Go.Cal
theorem noU_set {cs : Array Value} {i : Nat} {a : Value} (h : ∀ x ∈ cs.toList, ∀ n, x ≠ .int .u64 n) (ha : ∀ n, a ≠ .int .u64 n) : ∀ x ∈ (cs.setIfInBounds i a).toList, ∀ n, x ≠ .int .u64 n := by
  intro x hx
  rw [Array.toList_setIfInBounds] at hx
  rcases List.mem_or_eq_of_mem_set hx with h1 | h1
  · exact h x h1
  · subst h1; exact ha
theorem wp_store_part4 {P : Program} {o : Oper} {a : Act} {w : World} {K : Act → World → Prop} {Q : Exit → Act → World → Prop} (ty : TypeId) (x y : Operand) (ho : o.op = .store ty x y)
    (g off : Nat) (c0 c1 c2 c3 : Value) (hx : a.eval x = .pointer (some ⟨g, off, none⟩)) (hy : a.eval y = .agg #[c0, c1, c2, c3])
    (t : TypeId) (old : Array Value) (hg : pBlk g old t w) (hoff : off + 4 ≤ old.size) (hi : (P.info? ty).map (·.size) = some 4) (h1 : (#[c0, c1, c2, c3] : Array Value).all (·.oneCell') = true)
    (h : K (a.put o.dst undef) ((((w.setCell ⟨g, off, none⟩ c0).setCell ⟨g, off + 1, none⟩ c1).setCell ⟨g, off + 1 + 1, none⟩ c2).setCell ⟨g, off + 1 + 1 + 1, none⟩ c3)) : o.wp P a w K Q := by
  have hsome : ∀ j, j < [c0, c1, c2, c3].length → (w.cell? ⟨g, off + 0 + j, none⟩).isSome = true := fun j hj => by
    rw [cell_of_row w g _ _ _ _ hg, Array.getElem?_eq_getElem (by simp at hj; omega)]; rfl
  have hfree : ∀ j, j < [c0, c1, c2, c3].length → w.frozen? ⟨g, off + 0 + j, none⟩ = false := fun j hj => hg.free _
  have hst := run_storeCells_cells (P := P) g off [c0, c1, c2, c3] 0 w hsome hfree (fun v hv => (Array.all_eq_true_iff_forall_mem.1 h1) v (by simpa using hv))
  unfold Oper.wp execOp
  cases hq : P.info? ty with
  | none => simp [hq] at hi
  | some i =>
    have hs : 4 = i.size := by simp [hq] at hi; omega
    have hrun : (storeVar ty ⟨g, off, none⟩ (.agg #[c0, c1, c2, c3])).run P w = .ok () (w.setCells g (off + 0) [c0, c1, c2, c3]) := by
      simp [storeVar, sizeOf, typeInfo, hq, Value.cells, ← hs, hst]
    simp only [ho, hx, hy, Instr.storeAt, Instr.sureAddr, Sem.run_bind, Sem.run_pure, Result.andThen_ok, hrun]
    exact h
theorem wpList_store_part4 {P : Program} (w : World) {ops : Array Oper} {rest : List Oper} {o : Oper} {a : Act} {Q : Exit → Act → World → Prop}
    (hg : o.guard = none) (t : TypeId) (p x : Operand) (hop : o.op = Op.store t p x) (g off : Nat) (c0 c1 c2 c3 : Value) (old new : Array Value) (t' : TypeId)
    (hp : a.eval p = .pointer (some ⟨g, off, none⟩)) (hx : a.eval x = .agg #[c0, c1, c2, c3]) (hb : pBlk g old t' w) (hoff : off + 4 ≤ old.size)
    (hi : (P.info? t).map (·.size) = some 4) (h1 : (#[c0, c1, c2, c3] : Array Value).all (·.oneCell') = true) (hy : ∀ x ∈ old.toList, ∀ n, x ≠ .int .u64 n)
    (n0 : ∀ n, c0 ≠ .int .u64 n) (n1 : ∀ n, c1 ≠ .int .u64 n) (n2 : ∀ n, c2 ≠ .int .u64 n)
    (hnew : (((old.setIfInBounds off c0).setIfInBounds (off + 1) c1).setIfInBounds (off + 1 + 1) c2).setIfInBounds (off + 1 + 1 + 1) c3 = new)
    (hK : ∀ w' : World, pBlk g new t' w' → Below g w w' → w'.heap.size = w.heap.size → (∀ v k N, IsT w v k N → IsT w' v k N) → (∀ h cs' t'', h ≠ g → pBlk h cs' t'' w → pBlk h cs' t'' w') → wpList P ops Q rest (a.put o.dst undef) w') :
    wpList P ops Q (o :: rest) a w := by
  have q1 := pBlk.setX hb off c0
  have q2 := pBlk.setX q1 (off + 1) c1
  have q3 := pBlk.setX q2 (off + 1 + 1) c2
  have q4 := pBlk.setX q3 (off + 1 + 1 + 1) c3
  have m1 := noU_set (i := off) hy n0
  have m2 := noU_set (i := off + 1) m1 n1
  have m3 := noU_set (i := off + 1 + 1) m2 n2
  have hoth : ∀ (W : World) (i k : Nat) (v : Value), g ≠ k → (W.setCell ⟨g, i, none⟩ v).heap[k]? = W.heap[k]? := by
    intro W i k v hk
    unfold World.setCell
    simp only [Array.getElem?_modify]
    rw [if_neg hk]
  refine wpList_plain hg fun _ hK' => wp_store_part4 t p x hop g off c0 c1 c2 c3 hp hx t' old hb hoff hi h1 (hK' _ _ (hK _ (hnew ▸ q4) ?_ ?_ ?_ ?_))
  · exact ((((Below.refl _ _).setCell (p := ⟨g, off, none⟩) (Nat.le_refl _) _).setCell (p := ⟨g, off + 1, none⟩) (Nat.le_refl _) _).setCell (p := ⟨g, off + 1 + 1, none⟩) (Nat.le_refl _) _).setCell (p := ⟨g, off + 1 + 1 + 1, none⟩) (Nat.le_refl _) _
  · simp
  · intro v k N h
    exact IsT.apartX (IsT.apartX (IsT.apartX (IsT.apartX h hb hy) q1 m1) q2 m2) q3 m3
  · intro h cs' t'' hne hh
    unfold pBlk at hh ⊢
    rw [hoth _ _ _ _ (fun e => hne e.symm), hoth _ _ _ _ (fun e => hne e.symm), hoth _ _ _ _ (fun e => hne e.symm), hoth _ _ _ _ (fun e => hne e.symm)]
    exact hh
theorem three_row {w : World} {g : Nat} {t : TypeId} {b0 b1 : Bool} {x0 x1 : Option Addr} {y0 z0 y1 z1 : Nat} {c0 c1 : Int} (p0 : pBlk g #[.bool b0, .slice x0 y0 z0, .int .i64 c0] t w) :
    ∃ w', ((w.setCell ⟨g, 0, none⟩ (.bool b1)).setCell ⟨g, 1, none⟩ (.slice x1 y1 z1)).setCell ⟨g, 2, none⟩ (.int .i64 c1) = w' ∧ pBlk g #[.bool b1, .slice x1 y1 z1, .int .i64 c1] t w' ∧ (∀ v k N, IsT w v k N → IsT w' v k N) ∧ (∀ B, B ≤ g → Below B w w') := by
  have no3 : ∀ (a b c : Value), (∀ n, a ≠ .int .u64 n) → (∀ n, b ≠ .int .u64 n) → (∀ n, c ≠ .int .u64 n) → ∀ x ∈ (#[a, b, c] : Array Value).toList, ∀ n, x ≠ .int .u64 n := by
    intro a b c ha hb hc x hx
    simp at hx
    rcases hx with rfl | rfl | rfl <;> assumption
  have q1 : pBlk g #[.bool b1, .slice x0 y0 z0, .int .i64 c0] t (w.setCell ⟨g, 0, none⟩ (.bool b1)) := pBlk.setX p0 0 (.bool b1)
  have q2 : pBlk g #[.bool b1, .slice x1 y1 z1, .int .i64 c0] t ((w.setCell ⟨g, 0, none⟩ (.bool b1)).setCell ⟨g, 1, none⟩ (.slice x1 y1 z1)) := pBlk.setX q1 1 (.slice x1 y1 z1)
  have q3 : pBlk g #[.bool b1, .slice x1 y1 z1, .int .i64 c1] t (((w.setCell ⟨g, 0, none⟩ (.bool b1)).setCell ⟨g, 1, none⟩ (.slice x1 y1 z1)).setCell ⟨g, 2, none⟩ (.int .i64 c1)) := pBlk.setX q2 2 (.int .i64 c1)
  refine ⟨_, rfl, q3, fun v k N h => ?_, fun B hB => ?_⟩
  · exact IsT.apartX (IsT.apartX (IsT.apartX h p0 (no3 _ _ _ (by simp) (by simp) (by simp))) q1 (no3 _ _ _ (by simp) (by simp) (by simp))) q2 (no3 _ _ _ (by simp) (by simp) (by simp))
  · exact (((Below.refl _ _).setCell (p := ⟨g, 0, none⟩) hB _).setCell (p := ⟨g, 1, none⟩) hB _).setCell (p := ⟨g, 2, none⟩) hB _
end Go.Proofs.YtncfbleeidjflaaGreatDoor
