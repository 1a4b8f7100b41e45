/- The nat layer, fourth part: differences. Conditions: lengths below 2^39. -/
import Derived.Test.YtobokaafmcfeaaaGreatDoorSk06
import Derived.StillTailTactics
namespace Go.Proofs.YtobokaafmcfeaaaGreatDoor
open Go.RowKit Go.Cal
/-- What stands at the head of a round of a difference. -/
structure SubRel (xs ys L : List Nat) (k c : Nat) : Prop where
  len : L.length = xs.length
  dig : Dig 18446744073709551616 L
  carry : c ≤ 1
  sum : vl 18446744073709551616 (L.take k) + vl 18446744073709551616 (ys.take k) = vl 18446744073709551616 (xs.take k) + 18446744073709551616 ^ k * c
theorem SubRel.start (xs ys : List Nat) : SubRel xs ys (List.replicate xs.length 0) 0 0 :=
  ⟨by simp, dig_zeros (by omega) _, by omega, by simp [vl]⟩
theorem SubRel.step {xs ys L : List Nat} {k c x y : Nat} (h : SubRel xs ys L k c) (hk : k < xs.length) (hx : xs.getD k 0 = x) (hy : ys.getD k 0 = y) (h1 : x < 18446744073709551616) (h2 : y < 18446744073709551616) :
    SubRel xs ys (L.set k ((x + 18446744073709551616 - y - c) % 18446744073709551616)) (k + 1) (if x < y + c then 1 else 0) := by
  have hc := h.carry
  refine ⟨by rw [List.length_set, h.len], dig_set h.dig _ (Nat.mod_lt _ (by omega)), by split <;> omega, ?_⟩
  rw [vl_take_set (by rw [h.len]; omega), vl_getD, vl_getD, hx, hy, Nat.pow_succ]
  refine diff_step h.sum ?_
  split <;> omega
theorem sub_end {xs ys L : List Nat} {c : Nat} (h : SubRel xs ys L xs.length c) (hle : vl 18446744073709551616 ys ≤ vl 18446744073709551616 xs) (d1 : Dig 18446744073709551616 xs) :
    vl 18446744073709551616 L = vl 18446744073709551616 xs - vl 18446744073709551616 ys := by
  have h1 := h.sum
  rw [vl_take_all L _ (by rw [h.len]; exact Nat.le_refl _), vl_take_all xs _ (Nat.le_refl _)] at h1
  have hl := vl_lt h.dig
  rw [h.len] at hl
  have hx := vl_lt d1
  by_cases hy : ys.length ≤ xs.length
  · rw [vl_take_all ys _ hy] at h1
    rcases Nat.eq_zero_or_pos c with hc | hc
    · subst hc; omega
    · have : 18446744073709551616 ^ xs.length * 1 ≤ 18446744073709551616 ^ xs.length * c := Nat.mul_le_mul_left _ hc
      omega
  · have hs := vl_split (b := 18446744073709551616) ys xs.length (by omega)
    have hz : vl 18446744073709551616 (ys.drop xs.length) = 0 := by
      rcases Nat.eq_zero_or_pos (vl 18446744073709551616 (ys.drop xs.length)) with h0 | h0
      · exact h0
      · have : 18446744073709551616 ^ xs.length * 1 ≤ 18446744073709551616 ^ xs.length * vl 18446744073709551616 (ys.drop xs.length) := Nat.mul_le_mul_left _ h0
        omega
    rw [hz, Nat.mul_zero, Nat.add_zero] at hs
    rw [← hs] at h1
    rcases Nat.eq_zero_or_pos c with hc | hc
    · subst hc; omega
    · have : 18446744073709551616 ^ xs.length * 1 ≤ 18446744073709551616 ^ xs.length * c := Nat.mul_le_mul_left _ hc
      omega
/-- A difference, if there is one. -/
def RetSub (w : World) (X Y : Nat) (e : Ending) (w' : World) : Prop :=
  if X < Y then e = .returned (.tuple #[.slice none 0 0, .bool false]) ∧ Below w.heap.size w w'
  else ∃ A c zs, e = .returned (.tuple #[.slice A (zs : List Nat).length c, .bool true]) ∧ GotU w' w.heap.size A c zs ∧ Nrm zs (X - Y) ∧ Below w.heap.size w w'
set_option maxRecDepth 100000 in
set_option maxHeartbeats 1000000 in
theorem sub_any {A1 A2 : Option Addr} {xs ys : List Nat} (c1 c2 : Nat) (w : World) (h1 : RdU w w.heap.size A1 xs) (h2 : RdU w w.heap.size A2 ys) (hc1 : xs.length ≤ c1) (hc2 : ys.length ≤ c2) (hn1 : xs.length ≤ 1099511627776) (hn2 : ys.length ≤ 1099511627776)
    (d1 : Dig 18446744073709551616 xs) (d2 : Dig 18446744073709551616 ys) :
    Calls Tryz.prog 181 #[.slice A1 xs.length c1, .slice A2 ys.length c2] w (RetSub w (vl 18446744073709551616 xs) (vl 18446744073709551616 ys)) := by
  have hmk := run_makeU (P := Tryz.prog) 33 22 under_nat info_u64 xs.length (by omega)
  have hcmp := cmp_any c1 c2 w h1 h2 hc1 hc2 hn1 hn2 d1 d2
  replace d1 := Lib.hid d1
  replace d2 := Lib.hid d2
  by_cases hlt : vl 18446744073709551616 xs < vl 18446744073709551616 ys
  · rw [cmpV_lt (by exact_mod_cast hlt)] at hcmp
    replace hcmp := Lib.hid hcmp
    have hR : Hid (∀ e w', RetSub w (vl 18446744073709551616 xs) (vl 18446744073709551616 ys) e w' ↔ (e = .returned (.tuple #[.slice none 0 0, .bool false]) ∧ Below w.heap.size w w')) := fun e w' => by unfold RetSub; rw [if_pos hlt]
    clear hlt hmk
    go_enter Tryz.func181, Tryz.ntmps181
    go_wp2_with fail
    refine hcmp.out.mono ?_
    rintro e w1 ⟨rfl, hd⟩
    go_wp2
    go_ret2
    exact (hR.out _ _).2 ⟨rfl, hd.below _⟩
  · have hge : (cmpV (vl 18446744073709551616 xs : Nat) (vl 18446744073709551616 ys : Nat) < 0) = False := by
      rcases cmpV_cases (vl 18446744073709551616 xs : Nat) (vl 18446744073709551616 ys : Nat) with ⟨h, h'⟩ | ⟨h, h'⟩ | ⟨h, h'⟩
      · omega
      · rw [h']; simp
      · rw [h']; simp
    generalize (cmpV (vl 18446744073709551616 xs : Nat) (vl 18446744073709551616 ys : Nat)) = cc at hcmp hge
    replace hcmp := Lib.hid hcmp
    have hcc : ¬ cc < 0 := by simp [hge]
    clear hge
    have hR : Hid (∀ e w', RetSub w (vl 18446744073709551616 xs) (vl 18446744073709551616 ys) e w' ↔ (∃ A c zs, e = .returned (.tuple #[.slice A (zs : List Nat).length c, .bool true]) ∧ GotU w' w.heap.size A c zs ∧ Nrm zs (vl 18446744073709551616 xs - vl 18446744073709551616 ys) ∧ Below w.heap.size w w')) := fun e w' => by unfold RetSub; rw [if_neg hlt]
    replace hlt := Lib.hid hlt
    go_enter Tryz.func181, Tryz.ntmps181
    go_wp2_with fail
    refine hcmp.out.mono ?_
    rintro e w0 ⟨rfl, hd⟩
    replace hd := hd.below w.heap.size
    have h1' := h1.below hd
    have h2' := h2.below hd
    have hz0 := hd.size
    go_wp2
    clear hmk
    go_loopw [7, 8, 18] (fun cv _ iv wr => ∃ (k c : Nat) (L : List Nat), k ≤ xs.length ∧ iv = .int .i64 k ∧ cv = .int .u64 c ∧ BlkU wr w0.heap.size 22 L ∧ Below w.heap.size w wr ∧ SubRel xs ys L k c) (fun _ _ iv _ => xs.length - (intOf iv).toNat)
    case atStart => exact ⟨0, 0, _, by omega, rfl, rfl, BlkU.made w0 22 _, hd.alloc hz0 _, .start xs ys⟩
    case round =>
      obtain ⟨k, c, L, hk, rfl, rfl, hB, hbw, hR'⟩ := hrel
      have hz := hbw.size
      by_cases hkm : k < xs.length
      · have hi : (k : Int) < (xs.length : Int) := by omega
        obtain ⟨b, off, rfl, hb, hcx⟩ := (h1.below hbw).at hkm
        have hx0 := hcx k hkm
        obtain ⟨x, hxx⟩ : ∃ x, xs.getD k 0 = x := ⟨_, rfl⟩
        obtain ⟨y, hyy⟩ : ∃ y, ys.getD k 0 = y := ⟨_, rfl⟩
        have hx1 : x < 18446744073709551616 := hxx ▸ dig_getD (by omega) d1.out k
        have hy1 : y < 18446744073709551616 := hyy ▸ dig_getD (by omega) d2.out k
        have cb := at_any c2 k wr.drew ((h2.below hbw).drewN 1)
        rw [hyy] at cb
        rw [hxx] at hx0
        have hst := hR'.step hkm hxx hyy hx1 hy1
        have hsub := run_sub64' x y c hR'.carry
        have hcell := hB.cell k (by rw [hR'.len]; omega)
        have hfr := hB.frozen k
        have hset := (hB.set k ((x + 18446744073709551616 - y - c) % 18446744073709551616)).drew
        generalize (x + 18446744073709551616 - y - c) % 18446744073709551616 = s at *
        generalize (if x < y + c then 1 else 0) = c' at *
        generalize L.getD k 0 = u at *
        replace cb := Lib.hid cb
        replace hxx := Lib.hid hxx
        replace hyy := Lib.hid hyy
        clear hcx
        go_wp2_with fail
        go_region_with (go_at_call 151; refine cb.out.mono ?_; rintro e w1 ⟨rfl, rfl⟩)
        all_goals go_wp2
        all_goals exact ⟨⟨k + 1, c', _, by omega, by go_num, rfl, hset, (hbw.setCell hz0 _).drew, hst⟩, by simp [intOf]; omega⟩
      · have hk' : k = xs.length := by omega
        subst hk'
        have hv := Lib.hid (sub_end hR' (by have := hlt.out; omega) d1.out)
        go_wp2_with fail
        refine (trim_made _ hB hz0 hbw hR'.len (Nat.le_refl _) (by omega) hR'.dig hv.out).mono ?_
        rintro e w1 ⟨A, c', zs, rfl, hg, hnrm, hb⟩
        go_wp2
        go_ret2
        exact (hR.out _ _).2 ⟨A, c', zs, rfl, hg, hnrm, hb⟩
end Go.Proofs.YtobokaafmcfeaaaGreatDoor
