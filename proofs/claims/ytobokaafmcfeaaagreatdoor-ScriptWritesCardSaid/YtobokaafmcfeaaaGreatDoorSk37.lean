/- Script: the map of the operations, made; in whatever order its entries are laid. Conditions: none. -/
import Derived.Test.YtobokaafmcfeaaaGreatDoorSk33
namespace Go.Proofs.YtobokaafmcfeaaaGreatDoor
open Go.RowKit Go.Cal
theorem under_byteS : Tryz.prog.underlying 5 = some (.int .u8) := by kernel_rfl
theorem under_mapS : Tryz.prog.underlying 142 = some (.map 5 1) := by kernel_rfl
section
variable {w w' : World} {g rb : Nat}
theorem keepM (hS : (w.heap.size < (w').heap.size ∧ rb < (w').heap.size ∧ (w').cell? ⟨w.heap.size, 0, none⟩ = some (.pointer (some ⟨rb, 0, none⟩)) ∧ (w').cell? ⟨rb, 0, none⟩ = some (.pointer (some ⟨g, 0, none⟩)))) {w2 : World} (hb : Below w'.heap.size w' w2) : (w.heap.size < (w2).heap.size ∧ rb < (w2).heap.size ∧ (w2).cell? ⟨w.heap.size, 0, none⟩ = some (.pointer (some ⟨rb, 0, none⟩)) ∧ (w2).cell? ⟨rb, 0, none⟩ = some (.pointer (some ⟨g, 0, none⟩))) := by
  obtain ⟨h0, h1, h2, h3⟩ := hS
  exact ⟨Nat.lt_of_lt_of_le h0 hb.size, Nat.lt_of_lt_of_le h1 hb.size, (hb.cell (p := ⟨w.heap.size, 0, none⟩) h0).trans h2, (hb.cell (p := ⟨rb, 0, none⟩) h1).trans h3⟩
theorem below_grown {W W2 : World} {B b : Nat} (hb : B ≤ b) (hg : W.grownBy W2 (some b)) (hB : B ≤ W.heap.size) : Below B W W2 :=
  ⟨hg.os, hg.tape, hg.output, hg.size, fun k hk => hg.block k (Nat.lt_of_lt_of_le hk hB) (fun e => by injection e with e; omega)⟩
theorem blk_grown {W W2 : World} {k b : Nat} {cs : Array Value} {t : TypeId} (h : pBlk k cs t W) (hg : W.grownBy W2 (some b)) (hne : k ≠ b) : pBlk k cs t W2 := by
  have hlt := h.lt
  unfold pBlk at *
  rw [hg.block k hlt (fun e => by injection e with e; exact hne e)]
  exact h
theorem keepG {W W2 : World} (hS : (w.heap.size < (W).heap.size ∧ rb < (W).heap.size ∧ (W).cell? ⟨w.heap.size, 0, none⟩ = some (.pointer (some ⟨rb, 0, none⟩)) ∧ (W).cell? ⟨rb, 0, none⟩ = some (.pointer (some ⟨g, 0, none⟩)))) (hg : W.grownBy W2 (some (w.heap.size + 1))) (hr : rb < w.heap.size) : (w.heap.size < (W2).heap.size ∧ rb < (W2).heap.size ∧ (W2).cell? ⟨w.heap.size, 0, none⟩ = some (.pointer (some ⟨rb, 0, none⟩)) ∧ (W2).cell? ⟨rb, 0, none⟩ = some (.pointer (some ⟨g, 0, none⟩))) := by
  obtain ⟨h0, h1, h2, h3⟩ := hS
  refine ⟨Nat.lt_of_lt_of_le h0 hg.size, Nat.lt_of_lt_of_le h1 hg.size, hg.cell h2 ?_, hg.cell h3 ?_⟩
  · simp
  · simp; omega
set_option maxRecDepth 100000 in
set_option maxHeartbeats 4000000 in
theorem does_any {r1 r2 r3 r4 : Value} (hR : pBlk rb #[(.pointer (some ⟨g, 0, none⟩)), r1, r2, r3, r4] 141 w) :
    Calls Tryz.prog 98 #[(.pointer (some ⟨rb, 0, none⟩))] w fun e w' => e = .returned (.map (some (w.heap.size + 1))) ∧ pBlk w.heap.size #[(.pointer (some ⟨rb, 0, none⟩))] 139 w' ∧ FunMap Tryz.prog 5 (w.heap.size + 1) (runV g rb w.heap.size) w' ∧ Below w.heap.size w w' := by
  obtain ⟨R, hR7⟩ := reads7 (runV g rb w.heap.size) (fun i j hi hj h => runV_apart _ _ _ i j hi hj h)
  have hb0 := (Below.refl w.heap.size w).alloc (Nat.le_refl _) (.cells #[(.pointer (some ⟨rb, 0, none⟩))] 139)
  have pB := pBlk_made w #[(.pointer (some ⟨rb, 0, none⟩))] 139
  have pR := pBlk_st _ _ _ _ _ hR hb0
  have hS0 : (w.heap.size < ((w.alloc (.cells #[(.pointer (some ⟨rb, 0, none⟩))] 139)).drew).heap.size ∧ rb < ((w.alloc (.cells #[(.pointer (some ⟨rb, 0, none⟩))] 139)).drew).heap.size ∧ ((w.alloc (.cells #[(.pointer (some ⟨rb, 0, none⟩))] 139)).drew).cell? ⟨w.heap.size, 0, none⟩ = some (.pointer (some ⟨rb, 0, none⟩)) ∧ ((w.alloc (.cells #[(.pointer (some ⟨rb, 0, none⟩))] 139)).drew).cell? ⟨rb, 0, none⟩ = some (.pointer (some ⟨g, 0, none⟩))) := ⟨pB.lt, pR.lt, pB.cell 0 _ rfl, pR.cell 0 _ rfl⟩
  have hmf : ∀ (fn : Fn) (first cap : Array Value) (w : World), (Instr.makeFunc fn first cap).run Tryz.prog w = .ok (.func fn first cap) w := fun _ _ _ _ => rfl
  have hmm := fun t w => run_makeMap (P := Tryz.prog) t w
  have hbt : ∀ a b c d e : Bool, a.toNat + b.toNat + c.toNat + d.toNat + e.toNat ≤ 5 := by intro a b c d e; cases a <;> cases b <;> cases c <;> cases d <;> cases e <;> decide
  go_enter Tryz.func98, Tryz.ntmps98
  go_wp2_with fail
  refine wp_region_held_drew (S := fun W => (w.heap.size < (W).heap.size ∧ rb < (W).heap.size ∧ (W).cell? ⟨w.heap.size, 0, none⟩ = some (.pointer (some ⟨rb, 0, none⟩)) ∧ (W).cell? ⟨rb, 0, none⟩ = some (.pointer (some ⟨g, 0, none⟩)))) (by kernel_rfl) hS0 (fun hS => ?_)
  (refine wpAnyH_take (i := 1) (v := ?_) rfl (by kernel_rfl) (by kernel_rfl) (by kernel_rfl) (fun _ _ _ h => h) (Or.inl ⟨by rfl, ?_⟩) hS ?_; rotate_left; (focus ((intro W9 hSW; obtain ⟨hs1, hs2, hs3, hs4⟩ := hSW; go_simp) <;> with_reducible rfl)))
  (refine wpAnyH_take (i := 2) (v := ?_) rfl (by kernel_rfl) (by kernel_rfl) (by kernel_rfl) (fun _ _ _ h => h) (Or.inl ⟨by rfl, ?_⟩) hS ?_; rotate_left; (focus ((intro W9 hSW; obtain ⟨hs1, hs2, hs3, hs4⟩ := hSW; go_simp) <;> with_reducible rfl)))
  (refine wpAnyH_take (i := 3) (v := ?_) rfl (by kernel_rfl) (by kernel_rfl) (by kernel_rfl) (fun _ _ _ h => h) (Or.inl ⟨by rfl, ?_⟩) hS ?_; rotate_left; (focus ((intro W9 hSW; obtain ⟨hs1, hs2, hs3, hs4⟩ := hSW; go_simp) <;> with_reducible rfl)))
  (refine wpAnyH_take (i := 4) (v := ?_) rfl (by kernel_rfl) (by kernel_rfl) (by kernel_rfl) (fun _ _ _ h => h) (Or.inl ⟨by rfl, ?_⟩) hS ?_; rotate_left; (focus ((intro W9 hSW; obtain ⟨hs1, hs2, hs3, hs4⟩ := hSW; go_simp) <;> with_reducible rfl)))
  (refine wpAnyH_take (i := 5) (v := ?_) rfl (by kernel_rfl) (by kernel_rfl) (by kernel_rfl) (fun _ _ _ h => h) (Or.inl ⟨by rfl, ?_⟩) hS ?_; rotate_left; (focus ((intro W9 hSW; obtain ⟨hs1, hs2, hs3, hs4⟩ := hSW; go_simp) <;> with_reducible rfl)))
  (refine wpAnyH_take (i := 7) (v := ?_) rfl (by kernel_rfl) (by kernel_rfl) (by kernel_rfl) (fun _ _ _ h => h) (Or.inl ⟨by rfl, ?_⟩) hS ?_; rotate_left; (focus ((intro W9 hSW; obtain ⟨hs1, hs2, hs3, hs4⟩ := hSW; go_simp) <;> with_reducible rfl)))
  (refine wpAnyH_take (i := 9) (v := ?_) rfl (by kernel_rfl) (by kernel_rfl) (by kernel_rfl) (fun _ _ _ h => h) (Or.inl ⟨by rfl, ?_⟩) hS ?_; rotate_left; (focus ((intro W9 hSW; obtain ⟨hs1, hs2, hs3, hs4⟩ := hSW; go_simp) <;> with_reducible rfl)))
  (refine wpAnyH_take (i := 11) (v := ?_) rfl (by kernel_rfl) (by kernel_rfl) (by kernel_rfl) (fun _ _ _ h => h) (Or.inl ⟨by rfl, ?_⟩) hS ?_; rotate_left; (focus ((intro W9 hSW; obtain ⟨hs1, hs2, hs3, hs4⟩ := hSW; go_simp) <;> with_reducible rfl)))
  (refine wpAnyH_take (i := 12) (v := ?_) rfl (by kernel_rfl) (by kernel_rfl) (by kernel_rfl) (fun _ _ _ h => h) (Or.inl ⟨by rfl, ?_⟩) hS ?_; rotate_left; (focus ((intro W9 hSW; obtain ⟨hs1, hs2, hs3, hs4⟩ := hSW; go_simp) <;> with_reducible rfl)))
  (refine wpAnyH_take (i := 13) (v := ?_) rfl (by kernel_rfl) (by kernel_rfl) (by kernel_rfl) (fun _ _ _ h => h) (Or.inl ⟨by rfl, ?_⟩) hS ?_; rotate_left; (focus ((intro W9 hSW; obtain ⟨hs1, hs2, hs3, hs4⟩ := hSW; go_simp) <;> with_reducible rfl)))
  (refine wpAnyH_take (i := 14) (v := ?_) rfl (by kernel_rfl) (by kernel_rfl) (by kernel_rfl) (fun _ _ _ h => h) (Or.inl ⟨by rfl, ?_⟩) hS ?_; rotate_left; (focus ((intro W9 hSW; obtain ⟨hs1, hs2, hs3, hs4⟩ := hSW; go_simp) <;> with_reducible rfl)))
  (refine wpAnyH_take (i := 15) (v := ?_) rfl (by kernel_rfl) (by kernel_rfl) (by kernel_rfl) (fun _ _ _ h => h) (Or.inl ⟨by rfl, ?_⟩) hS ?_; rotate_left; (focus ((intro W9 hSW; obtain ⟨hs1, hs2, hs3, hs4⟩ := hSW; go_simp) <;> with_reducible rfl)))
  (refine wpAnyH_take (i := 17) (v := ?_) rfl (by kernel_rfl) (by kernel_rfl) (by kernel_rfl) (fun _ _ _ h => h) (Or.inl ⟨by rfl, ?_⟩) hS ?_; rotate_left; (focus ((intro W9 hSW; obtain ⟨hs1, hs2, hs3, hs4⟩ := hSW; go_simp) <;> with_reducible rfl)))
  (refine wpAnyH_take (i := 19) (v := ?_) rfl (by kernel_rfl) (by kernel_rfl) (by kernel_rfl) (fun _ _ _ h => h) (Or.inl ⟨by rfl, ?_⟩) hS ?_; rotate_left; (focus ((intro W9 hSW; obtain ⟨hs1, hs2, hs3, hs4⟩ := hSW; go_simp) <;> with_reducible rfl)))
  (refine wpAnyH_take (i := 20) (v := ?_) rfl (by kernel_rfl) (by kernel_rfl) (by kernel_rfl) (fun _ _ _ h => h) (Or.inl ⟨by rfl, ?_⟩) hS ?_; rotate_left; (focus ((intro W9 hSW; obtain ⟨hs1, hs2, hs3, hs4⟩ := hSW; go_simp) <;> with_reducible rfl)))
  (refine wpAnyH_ready (rs := [0]) (by kernel_rfl) (by simp) ?_; refine AllReadyH.cons rfl (fun K hK => ?_) AllReadyH.nil)
  go_simp
  have hmade : ((w.alloc (.cells #[(.pointer (some ⟨rb, 0, none⟩))] 139)).drew.alloc (.map #[] 0)).ownsMap Tryz.prog 5 R (w.heap.size + 1) 0 (D6 false false false false false false) := by
    have h := World.ownsMap_made (w.alloc (.cells #[(.pointer (some ⟨rb, 0, none⟩))] 139)).drew Tryz.prog 5 R
    have e : (w.alloc (.cells #[(.pointer (some ⟨rb, 0, none⟩))] 139)).drew.heap.size = w.heap.size + 1 := by simp
    rw [e] at h
    exact h
  have hB3 : Below (w.alloc (.cells #[(.pointer (some ⟨rb, 0, none⟩))] 139)).heap.size (w.alloc (.cells #[(.pointer (some ⟨rb, 0, none⟩))] 139)) ((w.alloc (.cells #[(.pointer (some ⟨rb, 0, none⟩))] 139)).drew.alloc (.map #[] 0)) := (show Below (w.alloc (.cells #[(.pointer (some ⟨rb, 0, none⟩))] 139)).heap.size (w.alloc (.cells #[(.pointer (some ⟨rb, 0, none⟩))] 139)) (w.alloc (.cells #[(.pointer (some ⟨rb, 0, none⟩))] 139)).drew from (Below.refl _ _).drew).alloc (Nat.le_refl _) _
  have hB2 := hb0.trans (hB3.mono hb0.size)
  refine hK.out _ _ (keepM hS ((Below.refl _ _).alloc (Nat.le_refl _) _)) (fun hS => ?_)
  refine wpAnyH_cast (l' := #[true, true, true, true, true, true, false, true, false, true, false, true, true, true, true, true, false, true, false, true, true, false, false, false]) (by kernel_rfl) rfl ?_
  refine six_sets 6 8 10 16 18 21 2 (fun b0 b1 b2 b3 b4 b5 => #[true, true, true, true, true, true, b0, true, b1, true, b2, true, true, true, true, true, b3, true, b4, true, true, b5, false, false]) (fun b0 b1 b2 b3 b4 b5 W => ∃ n, n ≤ (b0.toNat + b1.toNat + b2.toNat + b3.toNat + b4.toNat + b5.toNat) ∧ W.ownsMap Tryz.prog 5 R (w.heap.size + 1) n (D6 b0 b1 b2 b3 b4 b5) ∧ Below w.heap.size w W ∧ pBlk w.heap.size #[(.pointer (some ⟨rb, 0, none⟩))] 139 W) ?hr ?s0 ?s1 ?s2 ?s3 ?s4 ?s5 ?o0 ?o1 ?o2 ?o3 ?o4 ?o5 ?he 6 false false false false false false _ rfl hS ?hI
  case hr =>
    intro b0 b1 b2 b3 b4 b5 h
    cases b0 <;> cases b1 <;> cases b2 <;> cases b3 <;> cases b4 <;> cases b5 <;> first | (cases h; done) | kernel_rfl
  case s0 => intro b1 b2 b3 b4 b5; rfl
  case s1 => intro b0 b2 b3 b4 b5; rfl
  case s2 => intro b0 b1 b3 b4 b5; rfl
  case s3 => intro b0 b1 b2 b4 b5; rfl
  case s4 => intro b0 b1 b2 b3 b5; rfl
  case s5 => intro b0 b1 b2 b3 b4; rfl
  case o0 =>
    rintro b1 b2 b3 b4 b5 W hS ⟨n, hn, hown, hB, hp⟩
    have hle : n < maxLen := by unfold maxLen; have h5 := hbt b1 b2 b3 b4 b5; simp at hn; omega
    obtain ⟨w2, hrun, hown2, hg⟩ := hown.update (Maps.int_keyed under_byteS) under_mapS hle (Maps.keyOf_int_mk under_byteS (a := 0) (by decide)) (hR7.1 0 (by omega))
    have hb := below_grown (Nat.le_succ _) hg hB.size
    refine wpOp_insert rfl rfl rfl hrun ⟨rfl, keepG hS hg hR.lt, n + 1, by simp at hn ⊢; omega, ?_, hB.trans hb, blk_grown hp hg (by omega)⟩
    rw [← D6_0]
    exact hown2
  case o1 =>
    rintro b0 b2 b3 b4 b5 W hS ⟨n, hn, hown, hB, hp⟩
    have hle : n < maxLen := by unfold maxLen; have h5 := hbt b0 b2 b3 b4 b5; simp at hn; omega
    obtain ⟨w2, hrun, hown2, hg⟩ := hown.update (Maps.int_keyed under_byteS) under_mapS hle (Maps.keyOf_int_mk under_byteS (a := 1) (by decide)) (hR7.1 1 (by omega))
    have hb := below_grown (Nat.le_succ _) hg hB.size
    refine wpOp_insert rfl rfl rfl hrun ⟨rfl, keepG hS hg hR.lt, n + 1, by simp at hn ⊢; omega, ?_, hB.trans hb, blk_grown hp hg (by omega)⟩
    rw [← D6_1]
    exact hown2
  case o2 =>
    rintro b0 b1 b3 b4 b5 W hS ⟨n, hn, hown, hB, hp⟩
    have hle : n < maxLen := by unfold maxLen; have h5 := hbt b0 b1 b3 b4 b5; simp at hn; omega
    obtain ⟨w2, hrun, hown2, hg⟩ := hown.update (Maps.int_keyed under_byteS) under_mapS hle (Maps.keyOf_int_mk under_byteS (a := 2) (by decide)) (hR7.1 2 (by omega))
    have hb := below_grown (Nat.le_succ _) hg hB.size
    refine wpOp_insert rfl rfl rfl hrun ⟨rfl, keepG hS hg hR.lt, n + 1, by simp at hn ⊢; omega, ?_, hB.trans hb, blk_grown hp hg (by omega)⟩
    rw [← D6_2]
    exact hown2
  case o3 =>
    rintro b0 b1 b2 b4 b5 W hS ⟨n, hn, hown, hB, hp⟩
    have hle : n < maxLen := by unfold maxLen; have h5 := hbt b0 b1 b2 b4 b5; simp at hn; omega
    obtain ⟨w2, hrun, hown2, hg⟩ := hown.update (Maps.int_keyed under_byteS) under_mapS hle (Maps.keyOf_int_mk under_byteS (a := 3) (by decide)) (hR7.1 3 (by omega))
    have hb := below_grown (Nat.le_succ _) hg hB.size
    refine wpOp_insert rfl rfl rfl hrun ⟨rfl, keepG hS hg hR.lt, n + 1, by simp at hn ⊢; omega, ?_, hB.trans hb, blk_grown hp hg (by omega)⟩
    rw [← D6_3]
    exact hown2
  case o4 =>
    rintro b0 b1 b2 b3 b5 W hS ⟨n, hn, hown, hB, hp⟩
    have hle : n < maxLen := by unfold maxLen; have h5 := hbt b0 b1 b2 b3 b5; simp at hn; omega
    obtain ⟨w2, hrun, hown2, hg⟩ := hown.update (Maps.int_keyed under_byteS) under_mapS hle (Maps.keyOf_int_mk under_byteS (a := 4) (by decide)) (hR7.1 4 (by omega))
    have hb := below_grown (Nat.le_succ _) hg hB.size
    refine wpOp_insert rfl rfl rfl hrun ⟨rfl, keepG hS hg hR.lt, n + 1, by simp at hn ⊢; omega, ?_, hB.trans hb, blk_grown hp hg (by omega)⟩
    rw [← D6_4]
    exact hown2
  case o5 =>
    rintro b0 b1 b2 b3 b4 W hS ⟨n, hn, hown, hB, hp⟩
    have hle : n < maxLen := by unfold maxLen; have h5 := hbt b0 b1 b2 b3 b4; simp at hn; omega
    obtain ⟨w2, hrun, hown2, hg⟩ := hown.update (Maps.int_keyed under_byteS) under_mapS hle (Maps.keyOf_int_mk under_byteS (a := 5) (by decide)) (hR7.1 5 (by omega))
    have hb := below_grown (Nat.le_succ _) hg hB.size
    refine wpOp_insert rfl rfl rfl hrun ⟨rfl, keepG hS hg hR.lt, n + 1, by simp at hn ⊢; omega, ?_, hB.trans hb, blk_grown hp hg (by omega)⟩
    rw [← D6_5]
    exact hown2
  case hI => exact ⟨0, Nat.zero_le _, hmade, hB2, pBlk_st _ _ _ _ _ pB hB3⟩
  case he =>
    rintro W hS ⟨n, hn, hown, hB, hp⟩
    (refine wpAnyH_take (i := 22) (v := ?_) rfl (by kernel_rfl) (by kernel_rfl) (by kernel_rfl) (fun _ _ _ h => h) (Or.inl ⟨by rfl, ?_⟩) hS ?_; rotate_left; (focus ((intro W9 hSW; obtain ⟨hs1, hs2, hs3, hs4⟩ := hSW; go_simp) <;> with_reducible rfl)))
    (refine wpAnyH_take (i := 23) (v := ?_) rfl (by kernel_rfl) (by kernel_rfl) (by kernel_rfl) (fun _ _ _ h => h) (Or.inl ⟨by rfl, ?_⟩) hS ?_; rotate_left; (focus ((intro W9 hSW; obtain ⟨hs1, hs2, hs3, hs4⟩ := hSW; go_simp) <;> with_reducible rfl)))
    refine wpAnyH_done (by kernel_rfl) ?_ _
    go_wp2
    go_ret
    exact ⟨rfl, hp, ⟨R, n, hR7, hown⟩, hB⟩
end
end Go.Proofs.YtobokaafmcfeaaaGreatDoor
