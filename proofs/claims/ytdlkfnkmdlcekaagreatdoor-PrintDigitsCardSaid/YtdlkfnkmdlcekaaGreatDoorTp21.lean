/- Posits: Value, walked. Condition: the library's table of noughts. -/
import Derived.Test.YtdlkfnkmdlcekaaGreatDoorTp11
import Derived.Test.YtdlkfnkmdlcekaaGreatDoorTp16
import Derived.Defers
import Derived.Recover
import Derived.Tactics2
namespace Go.Proofs.YtdlkfnkmdlcekaaGreatDoor
open Go.RowKit Go.Cal
theorem pcaught_idle (g : Nat) (w : World) :
    CallsD Tryz.prog 213 #[.pointer (some ⟨g, 0, none⟩)] .returning w fun e u' w' => e = .returned (.tuple #[]) ∧ u' = .returning ∧ w' = w := by
  refine callsD_of_wpS Tryz.func213 rfl fun c₀ cs hu => ?_
  apply wpS_seq
  apply wpS_region
  simp [wpOpsS, go_sem, recoverD, hu, Tryz.ntmps213, Exit.thenS]
  refine wpS_of_wp ?_
  go_wp2
  cases c₀
  simp_all [bodyPostS, results, Tryz.results213]
set_option maxRecDepth 100000 in
set_option maxHeartbeats 1000000 in
theorem pvalue_any (n key : Nat) (hn : 2 ≤ n) (hn' : n ≤ 64) (h0 : 0 < key) (hkn : key < 2 ^ n) (w : World) (hT : TabD w) :
    Calls Tryz.prog 207 #[.int .i64 (n + 1), .int .u64 key] w fun e w' => e = .returned (.tuple #[.int .u64 ((oddP 64 (poF (poL n key) (key % 2 ^ poL n key)) (4 * poR n key + poE (poL n key) (key % 2 ^ poL n key) - (poL n key - 2 : Nat))).1 : Nat), .int .i64 (oddP 64 (poF (poL n key) (key % 2 ^ poL n key)) (4 * poR n key + poE (poL n key) (key % 2 ^ poL n key) - (poL n key - 2 : Nat))).2, .int .i64 0]) ∧ Below w.heap.size w w' := by
  have hv := fun w hT => pval_any n key hn hn' h0 hkn w hT
  generalize oddP 64 (poF (poL n key) (key % 2 ^ poL n key)) (4 * poR n key + poE (poL n key) (key % 2 ^ poL n key) - (poL n key - 2 : Nat)) = p at hv ⊢
  obtain ⟨m, e⟩ := p
  replace hv := Lib.hid hv
  go_enter_defers Tryz.func207, Tryz.ntmps207
  go_wp2_with fail
  refine (hv.out _ (hT.below ((Below.refl _ _).alloc (Nat.le_refl _) _))).mono ?_
  rintro e1 w1 ⟨rfl, hb⟩
  have hp := pBlk_st _ _ _ _ _ (pBlk_made w #[.int .i64 0] 26) hb
  have q0 := hp.cell 0 _ rfl
  have f0 := hp.free 0
  go_wp2
  show Leaves _ _ _ _ _ .returning _
  refine leaves_cons (f := 213) (args := #[.pointer (some ⟨w.heap.size, 0, none⟩)]) (by simp) (by simp [go_sem]) ?_
  refine (pcaught_idle w.heap.size _).mono ?_
  rintro e1 u1 w8 ⟨rfl, rfl, rfl⟩
  simp [Leaves, settle, results, Tryz.results207, go_sem, q0]
  exact (((Below.refl _ _).alloc (Nat.le_refl _) _).trans (hb.mono (by simp))).setCell (p := ⟨w.heap.size, 0, none⟩) (Nat.le_refl _) _
end Go.Proofs.YtdlkfnkmdlcekaaGreatDoor
