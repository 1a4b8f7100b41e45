/- The quire: its bits, copied. Conditions: none. -/
/- The quire: its bits, set. Conditions: none. -/
/- The quire: its pattern. Conditions: the variables that values read. -/
import Derived.Test.YtobokaafmcfeaaaGreatDoorSk30
import Derived.Test.YtobokaafmcfeaaaGreatDoorSk21
namespace Go.Proofs.YtobokaafmcfeaaaGreatDoor
open Go.RowKit Go.Cal
theorem clone_nil (c : Nat) (w : World) : Calls Tryz.prog 100 #[.slice none 0 c] w fun e w' => e = .returned (.slice none 0 0) ∧ w = w' := by
  have hne : ∀ (c : Nat) (w : World), (binOp .eql 33 (.slice none 0 c) (.slice none 0 0)).run Tryz.prog w = .ok (.bool true) w := fun _ _ => by kernel_rfl
  go_enter Tryz.func100, Tryz.ntmps100
  go_wp2
  go_ret
  exact ⟨rfl, rfl⟩
theorem clone_x {w : World} {A : Option Addr} {n c k X : Nat} (h : IsT w (.slice A n c) k X) (b1 : k ≤ 1048576) : Calls Tryz.prog 100 #[.slice A n c] w (TellsF w k X) := by
  cases A with
  | some a => exact clone_f h b1 (fun e => by cases e)
  | none =>
    obtain ⟨A1, c1, z1, e, r1, hc1, hl1, hk, nr⟩ := _root_.id h
    injection e with e1 e2 e3
    have hz : z1 = [] := by
      rcases r1.place with h1 | ⟨b, off, h1, -⟩
      · exact h1
      · rw [← e1] at h1; cases h1
    subst hz
    have hn : n = 0 := e2
    subst hn
    have hX : X = 0 := by rw [← nr.val]; rfl
    subst hX
    refine (clone_nil c w).mono ?_
    rintro e w' ⟨rfl, rfl⟩
    exact ⟨_, _, _, rfl, (nil_tW w k), .inl rfl, .refl _ _⟩
set_option maxRecDepth 100000 in
theorem bits_o {F : Nat → Prop} {w : World} {g X : Nat} {id : Int} (h : QuF F g id X w) : Calls Tryz.prog 39 #[.pointer (some ⟨g, 0, none⟩)] w (TellsF w 16 X) := by
  obtain ⟨A, n, c, hp, hv, -⟩ := h
  have c8 := hp.cell 8 _ rfl
  have hg := hp.lt
  have hcl := Lib.hid (clone_x hv (by decide))
  clear hp hv
  go_enter Tryz.func39, Tryz.ntmps39
  go_wp2_with fail
  refine hcl.out.mono ?_
  rintro e w1 ⟨A1, n1, c1, rfl, hv1, hf1, hb1⟩
  go_wp2
  go_ret
  exact ⟨_, _, _, rfl, hv1, hf1, hb1⟩
end Go.Proofs.YtobokaafmcfeaaaGreatDoor
namespace Go.Proofs.YtobokaafmcfeaaaGreatDoor
open Go.RowKit Go.Cal
set_option maxRecDepth 100000 in
set_option maxHeartbeats 2000000 in
theorem set_o {F : Nat → Prop} {w : World} (hF : ∀ b, F b → b < w.heap.size) {g X N k : Nat} {id : Int} {v : Value} (h1 : 1 ≤ id) (h4 : id ≤ 4) (h : QuF F g id X w) (hv : IsT w v k N) (hk : k ≤ 18) (hN : blen N ≤ quS id) :
    Calls Tryz.prog 242 #[.pointer (some ⟨g, 0, none⟩), v] w fun e w' => e = .returned (.int .i64 0) ∧ QuF F g id N w' ∧ Mut g w w' := by
  obtain ⟨A, n, c, hp, hb, ho⟩ := h
  have hno := Lib.hid (norm_f (IsT.isN hv) (show k ≤ 1048576 by omega))
  have hbt := Lib.hid fun (W : World) (v : Value) (x : IsT W v k N) => bits_b x (show k ≤ 1048576 by omega)
  have hsz := Lib.hid fun (W : World) (hc : W.cell? ⟨g, 1, none⟩ = some (.int .i64 (fW id))) => qsz_q (g := g) h1 h4 hc
  have h16 := Lib.hid fun (W : World) (v : Value) (x : IsT W v k N) => quire_word h1 h4 (show N < 2 ^ quS id from bl_iff.1 hN) x
  obtain ⟨b, hb1⟩ : ∃ b, blen N = b := ⟨_, rfl⟩
  obtain ⟨S, hS⟩ : ∃ S, quS id = S := ⟨_, rfl⟩
  rw [hb1] at hbt hN
  rw [hS] at hsz hN
  have hle : ¬ (S : Int) < (b : Int) := by omega
  have hbe := Lib.hid hb
  have hpe := Lib.hid hp
  clear hb1 hS hN hb hv
  go_enter Tryz.func242, Tryz.ntmps242
  go_wp2_with fail
  refine hno.out.mono ?_
  rintro e w1 ⟨A1, n1, c1, rfl, hv1, hf1, hb1⟩
  have hp1 := pBlk_st _ _ _ _ _ hpe.out hb1
  go_wp2_with fail
  refine (hbt.out _ _ hv1).mono ?_
  rintro e w2 ⟨rfl, hb2⟩
  have hp2 := pBlk_st _ _ _ _ _ hp1 hb2
  have hv2 := hv1.below hb2
  go_wp2_with fail
  refine (hsz.out _ (hp2.cell 1 _ rfl)).mono ?_
  rintro e w3 ⟨rfl, rfl⟩
  obtain ⟨hq, hm⟩ := stored_o (F := F) hp2 (h16.out _ _ hv2) (hf1.off hF (Nat.le_refl _))
  have e8 := hp2.cell 8 _ rfl
  have f8 := hp2.free 8
  have hg2 := hp2.lt
  have hB2 := hb1.trans (hb2.mono hb1.size)
  go_wp2
  go_ret
  exact ⟨rfl, hq, (Mut.of hB2).trans hm⟩
end Go.Proofs.YtobokaafmcfeaaaGreatDoor
namespace Go.Proofs.YtobokaafmcfeaaaGreatDoor
open Go.RowKit Go.Cal
theorem posit_o {F : Nat → Prop} {w : World} {g X : Nat} {id : Int} (h1 : 1 ≤ id) (h4 : id ≤ 4) (hX : X < 2 ^ quS id) (hW : VaW w) (h : QuF F g id X w) : Calls Tryz.prog 36 #[.pointer (some ⟨g, 0, none⟩)] w fun e w' => e = .returned (.int .u64 (quP id X)) ∧ Below w.heap.size w w' := by
  obtain ⟨A, n, c, hp, hv, -⟩ := h
  exact posit_q h1 h4 hX hW (((LiveP.start w).put (pBlk_st g #[.int .i64 (fK id), .int .i64 (fW id), .int .i64 (fM id), .int .i64 (fB id), .int .u64 (fT id), .int .u64 (fI id), .int .u64 (fN id), .int .i64 id, .slice A n c] 135) hp).put (pT_st (.slice A n c) 16 _) hv)
end Go.Proofs.YtobokaafmcfeaaaGreatDoor
