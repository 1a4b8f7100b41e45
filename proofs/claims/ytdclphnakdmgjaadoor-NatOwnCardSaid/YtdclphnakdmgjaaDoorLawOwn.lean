/- The law NatOwn, walked. Condition: the table of powers reads as it is laid. -/
import Derived.Test.YtdclphnakdmgjaaDoorLawBits
namespace Go.Proofs.YtdclphnakdmgjaaDoor
open Go.RowKit Go.Cal
/-- A slice whose cells may be written; they lie in blocks from base on, below top. -/
def MineO (base top : Nat) (A : Option Addr) (n : Nat) (w : World) : Prop :=
  n ≤ 1099511627776 ∧ ∀ i, i < n → ∃ b off, A = some ⟨b, off, none⟩ ∧ base ≤ b ∧ b < top ∧ (w.cell? ⟨b, off + i, none⟩).isSome = true ∧ w.frozen? ⟨b, off + i, none⟩ = false
theorem MineO.nil (base top : Nat) (w : World) : MineO base top none 0 w := ⟨by omega, fun i hi => by omega⟩
theorem MineO.below {base top : Nat} {A : Option Addr} {n : Nat} {w w' : World} (h : MineO base top A n w) (ht : top ≤ w.heap.size) (hb : Below w.heap.size w w') : MineO base top A n w' :=
  ⟨h.1, fun i hi => by
    obtain ⟨b, off, e, h1, h2, h3, h4⟩ := h.2 i hi
    exact ⟨b, off, e, h1, h2, by rw [hb.cell (p := ⟨b, off + i, none⟩) (by show b < _; omega)]; exact h3, by rw [hb.frozen (p := ⟨b, off + i, none⟩) (by show b < _; omega)]; exact h4⟩⟩
theorem MineO.more {base base' top top' : Nat} {A : Option Addr} {n : Nat} {w : World} (h : MineO base top A n w) (hb : base' ≤ base) (ht : top ≤ top') : MineO base' top' A n w :=
  ⟨h.1, fun i hi => by
    obtain ⟨b, off, e, h1, h2, h3, h4⟩ := h.2 i hi
    exact ⟨b, off, e, by omega, by omega, h3, h4⟩⟩
theorem MineO.set {base top : Nat} {A : Option Addr} {n : Nat} {w : World} (h : MineO base top A n w) (p : Addr) (v : Value) : MineO base top A n (w.setCell p v) :=
  ⟨h.1, fun i hi => by
    obtain ⟨b, off, e, h1, h2, h3, h4⟩ := h.2 i hi
    refine ⟨b, off, e, h1, h2, ?_, by simpa using h4⟩
    by_cases hp : p = ⟨b, off + i, none⟩
    · subst hp
      rw [World.cell?_setCell_same' w _ v h3]; rfl
    · rw [World.cell?_setCell_other _ _ _ _ hp]; exact h3⟩
theorem MineO.ofW {base : Nat} {A : Option Addr} {c : Nat} {zs : List Nat} {w : World} (g : GotW w base A c zs) (hz : zs.length ≤ 1099511627776) : MineO base w.heap.size A zs.length w :=
  ⟨hz, fun i hi => by
    rcases g.own with rfl | ⟨b, off, rfl, h1, h2⟩
    · simp at hi
    · obtain ⟨b', off', e, hlt, hc⟩ := g.rd.at hi
      injection e with e
      injection e with e1 e2
      subst e1; subst e2
      exact ⟨b, off, rfl, h1, hlt, by rw [hc i hi]; rfl, h2 i hi⟩⟩
/-- Live numbers, and slices that may be written. -/
structure LiveM (B w : World) (l : List (Value × Nat × Nat)) (S : List (Option Addr × Nat × Nat)) : Prop where
  live : Live B w l
  mine : ∀ t ∈ S, MineO B.heap.size w.heap.size t.1 t.2.1 w
section
variable {B w : World} {l : List (Value × Nat × Nat)} {S : List (Option Addr × Nat × Nat)} {v1 v2 : Value} {k1 k2 X Y : Nat}
theorem LiveM.go {w' : World} (h : LiveM B w l S) (hb : Below w.heap.size w w') : LiveM B w' l S :=
  ⟨h.live.go hb, fun t ht => ((h.mine t ht).below (Nat.le_refl _) hb).more (Nat.le_refl _) hb.size⟩
theorem LiveM.put {A : Option Addr} {n : Nat} (c : Nat) (h : LiveM B w l S) (hm : MineO B.heap.size w.heap.size A n w) : LiveM B w l ((A, n, c) :: S) :=
  ⟨h.live, fun t ht => by
    rcases List.mem_cons.1 ht with rfl | ht
    · exact hm
    · exact h.mine t ht⟩
def TellsM (B : World) (l : List (Value × Nat × Nat)) (S : List (Option Addr × Nat × Nat)) (e : Ending) (w' : World) : Prop := ∃ A n c, e = .returned (.slice A n c) ∧ LiveM B w' l ((A, n, c) :: S)
theorem tellsM_of_retN {N : Nat} {e : Ending} {w' : World} (h : LiveM B w l S) (hr : RetN w N e w') : TellsM B l S e w' := by
  obtain ⟨A, c, zs, rfl, g, n, hb⟩ := hr
  exact ⟨_, _, _, rfl, (h.go hb).put c ((MineO.ofW (gotU_toW g) (Nat.le_trans g.cap g.small)).more h.live.size (Nat.le_refl _))⟩
theorem add_o (h : LiveM B w l S) (m1 : (v1, k1, X) ∈ l) (m2 : (v2, k2, Y) ∈ l) (b1 : k1 ≤ 1048576) (b2 : k2 ≤ 1048576) : Calls Tryd.prog 11 #[v1, v2] w (TellsM B l S) := by
  obtain ⟨A1, c1, z1, rfl, r1, hc1, hl1, d1, rfl⟩ := h.live.get m1
  obtain ⟨A2, c2, z2, rfl, r2, hc2, hl2, d2, rfl⟩ := h.live.get m2
  exact (add_any c1 c2 w r1 r2 (by omega) (by omega) d1 d2).mono fun e w' hr => tellsM_of_retN h hr
theorem mul_o (h : LiveM B w l S) (m1 : (v1, k1, X) ∈ l) (m2 : (v2, k2, Y) ∈ l) (b1 : k1 ≤ 1048576) (b2 : k2 ≤ 1048576) : Calls Tryd.prog 13 #[v1, v2] w (TellsM B l S) := by
  obtain ⟨A1, c1, z1, rfl, r1, hc1, hl1, d1, rfl⟩ := h.live.get m1
  obtain ⟨A2, c2, z2, rfl, r2, hc2, hl2, d2, rfl⟩ := h.live.get m2
  exact (mul_any c1 c2 w r1 r2 (by omega) (by omega) d1 d2).mono fun e w' hr => tellsM_of_retN h hr
theorem shl_o (n : Int) (h : LiveM B w l S) (m1 : (v1, k1, X) ∈ l) (b1 : k1 ≤ 1048576) : Calls Tryd.prog 18 #[v1, .int .i64 n] w (TellsM B l S) := by
  obtain ⟨A1, c1, z1, rfl, r1, hc1, hl1, d1, rfl⟩ := h.live.get m1
  exact (shl_any c1 n w r1 hc1 (by omega) d1).mono fun e w' hr => tellsM_of_retN h hr
theorem shr_o (n : Int) (h : LiveM B w l S) (m1 : (v1, k1, X) ∈ l) (b1 : k1 ≤ 1048576) : Calls Tryd.prog 21 #[v1, .int .i64 n] w (TellsM B l S) := by
  obtain ⟨A1, c1, z1, rfl, r1, hc1, hl1, d1, rfl⟩ := h.live.get m1
  exact (shr_any c1 n w r1 (by omega) d1).mono fun e w' hr => tellsM_of_retN h hr
theorem norm_o (h : LiveM B w l S) (m1 : (v1, k1, X) ∈ l) (b1 : k1 ≤ 1048576) : Calls Tryd.prog 22 #[v1] w (TellsM B l S) := by
  have i1 := (h.live.get m1).lt
  obtain ⟨A1, c1, z1, rfl, r1, hc1, hl1, d1, rfl⟩ := h.live.get m1
  refine (norm_any c1 w r1 hc1 (by omega) d1).mono fun e w' hr => ?_
  obtain ⟨A, c, zs, rfl, g, n, hb⟩ := hr
  have := n.length_le i1
  exact ⟨_, _, _, rfl, (h.go hb).put c ((MineO.ofW g (by omega)).more h.live.size (Nat.le_refl _))⟩
def TellsD (B : World) (l : List (Value × Nat × Nat)) (S : List (Option Addr × Nat × Nat)) (e : Ending) (w' : World) : Prop :=
  ∃ A n c A' n' c' ok, e = .returned (.tuple #[.slice A n c, .slice A' n' c', .bool ok]) ∧ LiveM B w' l ((A, n, c) :: (A', n', c') :: S)
theorem div_o (h : LiveM B w l S) (m1 : (v1, k1, X) ∈ l) (m2 : (v2, k2, Y) ∈ l) (b1 : k1 ≤ 1048576) (b2 : k2 ≤ 1048576) : Calls Tryd.prog 15 #[v1, v2] w (TellsD B l S) := by
  have i1 := (h.live.get m1).lt
  have i2 := (h.live.get m2).lt
  obtain ⟨A1, c1, z1, rfl, r1, hc1, hl1, d1, rfl⟩ := h.live.get m1
  obtain ⟨A2, c2, z2, rfl, r2, hc2, hl2, d2, rfl⟩ := h.live.get m2
  refine (div_any c1 c2 w r1 r2 hc1 hc2 (by omega) (by omega) d1 d2).mono fun e w' hr => ?_
  unfold RetDiv at hr
  split at hr
  · obtain ⟨rfl, hb⟩ := hr
    exact ⟨_, _, _, _, _, _, _, rfl, ((h.go hb).put 0 (.nil _ _ _)).put 0 (.nil _ _ _)⟩
  · next h0 =>
    obtain ⟨A, c, zs, A', c', rs, rfl, g, n, g', n', hb⟩ := hr
    have l1 := n.length_le (Nat.lt_of_le_of_lt (Nat.div_le_self _ _) i1)
    have l2 := n'.length_le (Nat.lt_trans (Nat.mod_lt _ (Nat.pos_of_ne_zero h0)) i2)
    exact ⟨_, _, _, _, _, _, _, rfl, ((h.go hb).put c' ((MineO.ofW g' (by omega)).more h.live.size (Nat.le_refl _))).put c ((MineO.ofW g (by omega)).more h.live.size (Nat.le_refl _))⟩
def TellsS (B : World) (l : List (Value × Nat × Nat)) (S : List (Option Addr × Nat × Nat)) (e : Ending) (w' : World) : Prop :=
  ∃ A n c ok, e = .returned (.tuple #[.slice A n c, .bool ok]) ∧ LiveM B w' l ((A, n, c) :: S)
theorem sub_o (h : LiveM B w l S) (m1 : (v1, k1, X) ∈ l) (m2 : (v2, k2, Y) ∈ l) (b1 : k1 ≤ 1048576) (b2 : k2 ≤ 1048576) : Calls Tryd.prog 14 #[v1, v2] w (TellsS B l S) := by
  obtain ⟨A1, c1, z1, rfl, r1, hc1, hl1, d1, rfl⟩ := h.live.get m1
  obtain ⟨A2, c2, z2, rfl, r2, hc2, hl2, d2, rfl⟩ := h.live.get m2
  refine (sub_any c1 c2 w r1 r2 hc1 hc2 (by omega) (by omega) d1 d2).mono fun e w' hr => ?_
  unfold RetSub at hr
  split at hr
  · obtain ⟨rfl, hb⟩ := hr
    exact ⟨_, _, _, _, rfl, (h.go hb).put 0 (.nil _ _ _)⟩
  · obtain ⟨A, c, zs, rfl, g, n, hb⟩ := hr
    exact ⟨_, _, _, _, rfl, (h.go hb).put c ((MineO.ofW (gotU_toW g) (Nat.le_trans g.cap g.small)).more h.live.size (Nat.le_refl _))⟩
end
def sl (t : Option Addr × Nat × Nat) : Value := .slice t.1 t.2.1 t.2.2
/-- At the heads of the rounds that write. -/
structure KeepO (W : World) (gl : Nat) (S : List (Option Addr × Nat × Nat)) (wr : World) : Prop where
  below : Below W.heap.size W wr
  blk : wr.heap[gl]? = some (.cells (S.map sl).toArray 23 (0, 0))
  mine : ∀ t ∈ S, MineO W.heap.size gl t.1 t.2.1 wr
theorem KeepO.cell {W wr : World} {gl : Nat} {S : List (Option Addr × Nat × Nat)} (h : KeepO W gl S wr) (i : Nat) (t : Option Addr × Nat × Nat) (hi : S[i]? = some t) : wr.cell? ⟨gl, i, none⟩ = some (.slice t.1 t.2.1 t.2.2) := by
  rw [cell_of_row wr gl i _ 23 (0, 0) h.blk]
  simp [hi, sl]
theorem KeepO.set {W wr : World} {gl : Nat} {S : List (Option Addr × Nat × Nat)} (h : KeepO W gl S wr) {b : Nat} (o : Nat) (v : Value) (h1 : W.heap.size ≤ b) (h2 : b < gl) : KeepO W gl S (wr.setCell ⟨b, o, none⟩ v) :=
  ⟨h.below.setCell h1 v, (Below.heap_setCell wr ⟨b, o, none⟩ v gl (by show gl ≠ b; omega)).trans h.blk, fun t ht => (h.mine t ht).set _ _⟩
set_option maxRecDepth 100000 in
set_option maxHeartbeats 8000000 in
theorem natOwn_any (v1 v2 : Value) (w : World) (hT : Tab10 w) (ha1 : ArgN w v1) (ha2 : ArgN w v2) :
    Calls Tryd.prog 7 #[v1, v2] w fun e w' => e = .returned (.bool true) ∧ Below w.heap.size w w' := by
  go_enter Tryd.func7, Tryd.ntmps7
  have hL0 := Live.start w
  go_wp2_with fail
  refine (shown_any w hT).mono ?_
  rintro e w1 ⟨rfl, hb1⟩
  replace hL0 := hL0.go hb1
  clear hb1
  go_wp2_with fail
  refine (few_a 10 hL0 (v := v1) ha1 (by decide) (by decide)).mono ?_
  rintro e w2 ⟨a, X, rfl, hL2⟩
  clear hL0
  go_wp2_with fail
  refine (few_a 10 hL2 (v := v2) ha2 (by decide) (by decide)).mono ?_
  rintro e w3 ⟨b, Y, rfl, hL3⟩
  clear hL2
  have hTF := hL3.tab hT
  have hbF := hL3.below
  have hF : Live w3 w3 [(b, 10, Y), (a, 10, X)] := ⟨.refl _ _, hL3.all⟩
  clear hL3
  have hta := fun (W : World) (h : Live w3 W [(b, 10, Y), (a, 10, X)]) => text_l hTF h (v1 := a) (by repeat (first | exact List.mem_cons_self | apply List.mem_cons_of_mem)) (by decide)
  have htb := fun (W : World) (h : Live w3 W [(b, 10, Y), (a, 10, X)]) => text_l hTF h (v1 := b) (by repeat (first | exact List.mem_cons_self | apply List.mem_cons_of_mem)) (by decide)
  generalize (⟨(Lib.decDigits X).toArray⟩ : ByteArray) = tx at hta
  generalize (⟨(Lib.decDigits Y).toArray⟩ : ByteArray) = ty at htb
  replace hta := Lib.hid hta
  replace htb := Lib.hid htb
  go_wp2_with fail
  refine (hta.out _ hF).mono ?_
  rintro e w4 ⟨rfl, hL4⟩
  go_wp2_with fail
  refine (htb.out _ hL4).mono ?_
  rintro e w5 ⟨rfl, hL5⟩
  clear hL4
  have hM5 : LiveM w3 w5 [(b, 10, Y), (a, 10, X)] [] := ⟨hL5, fun t ht => by simp at ht⟩
  clear hL5
  go_wp2_with fail
  refine (div_o hM5 (v1 := a) (v2 := b) (by repeat (first | exact List.mem_cons_self | apply List.mem_cons_of_mem)) (by repeat (first | exact List.mem_cons_self | apply List.mem_cons_of_mem)) (by decide) (by decide)).mono ?_
  rintro e w6 ⟨A0, n0, c0, A1, n1, c1, ok1, rfl, hM6⟩
  clear hM5
  go_wp2_with fail
  refine (sub_o hM6 (v1 := a) (v2 := b) (by repeat (first | exact List.mem_cons_self | apply List.mem_cons_of_mem)) (by repeat (first | exact List.mem_cons_self | apply List.mem_cons_of_mem)) (by decide) (by decide)).mono ?_
  rintro e w7 ⟨A2, n2, c2, ok2, rfl, hM7⟩
  clear hM6
  go_wp2_with fail
  refine (add_o hM7 (v1 := a) (v2 := b) (by repeat (first | exact List.mem_cons_self | apply List.mem_cons_of_mem)) (by repeat (first | exact List.mem_cons_self | apply List.mem_cons_of_mem)) (by decide) (by decide)).mono ?_
  rintro e w8 ⟨A3, n3, c3, rfl, hM8⟩
  clear hM7
  go_wp2_with fail
  refine (mul_o hM8 (v1 := a) (v2 := b) (by repeat (first | exact List.mem_cons_self | apply List.mem_cons_of_mem)) (by repeat (first | exact List.mem_cons_self | apply List.mem_cons_of_mem)) (by decide) (by decide)).mono ?_
  rintro e w9 ⟨A4, n4, c4, rfl, hM9⟩
  clear hM8
  go_wp2_with fail
  refine (shl_o 0 hM9 (v1 := a) (by repeat (first | exact List.mem_cons_self | apply List.mem_cons_of_mem)) (by decide)).mono ?_
  rintro e w10 ⟨A5, n5, c5, rfl, hM10⟩
  clear hM9
  go_wp2_with fail
  refine (shr_o 0 hM10 (v1 := a) (by repeat (first | exact List.mem_cons_self | apply List.mem_cons_of_mem)) (by decide)).mono ?_
  rintro e w11 ⟨A6, n6, c6, rfl, hM11⟩
  clear hM10
  go_wp2_with fail
  refine (norm_o hM11 (v1 := a) (by repeat (first | exact List.mem_cons_self | apply List.mem_cons_of_mem)) (by decide)).mono ?_
  rintro e w12 ⟨A7, n7, c7, rfl, hM12⟩
  clear hM11
  go_wp2
  obtain ⟨S, hS⟩ : ∃ S : List (Option Addr × Nat × Nat), S = [(A0, n0, c0), (A1, n1, c1), (A2, n2, c2), (A3, n3, c3), (A4, n4, c4), (A5, n5, c5), (A6, n6, c6), (A7, n7, c7)] := ⟨_, rfl⟩
  have hSl : S.length = 8 := by rw [hS]; rfl
  have hK : KeepO w3 w12.heap.size S (w12.alloc (.cells #[.slice A0 n0 c0, .slice A1 n1 c1, .slice A2 n2 c2, .slice A3 n3 c3, .slice A4 n4 c4, .slice A5 n5 c5, .slice A6 n6 c6, .slice A7 n7 c7] 23)) := by
    refine ⟨hM12.live.below.alloc hM12.live.size _, by rw [heap_alloc_new, hS]; rfl, fun t ht => ?_⟩
    have hm : t ∈ [(A7, n7, c7), (A6, n6, c6), (A5, n5, c5), (A4, n4, c4), (A3, n3, c3), (A2, n2, c2), (A0, n0, c0), (A1, n1, c1)] := by
      rw [hS] at ht
      simp only [List.mem_cons, List.not_mem_nil, or_false] at ht ⊢
      rcases ht with h | h | h | h | h | h | h | h <;> simp [h]
    exact (hM12.mine t hm).below (Nat.le_refl _) ((Below.refl _ _).alloc (Nat.le_refl _) _)
  replace hSl := Lib.hid hSl
  obtain ⟨gl, hgl⟩ : ∃ gl, w12.heap.size = gl := ⟨_, rfl⟩
  rw [hgl] at hK ⊢
  generalize (w12.alloc (.cells #[.slice A0 n0 c0, .slice A1 n1 c1, .slice A2 n2 c2, .slice A3 n3 c3, .slice A4 n4 c4, .slice A5 n5 c5, .slice A6 n6 c6, .slice A7 n7 c7] 23)) = w13 at hK ⊢
  clear hgl hS hM12
  go_loopg [14] 8 (fun k iv wr => ∃ i : Nat, iv = .int .i64 i ∧ i + k = 8 ∧ KeepO w3 gl S wr)
  case atStart => exact ⟨0, rfl, rfl, hK⟩
  case round =>
    clear hK
    obtain ⟨i, rfl, hik, hK⟩ := hrel
    obtain ⟨g1, rfl⟩ : ∃ g, g = gk := ⟨_, rfl⟩
    by_cases h0 : g1 = 0
    · subst h0
      have hi : ¬ (i : Int) < 8 := by omega
      have hL := Live.mk (l := [(b, 10, Y), (a, 10, X)]) hK.below (fun p hp => (hF.all p hp).below hK.below)
      clear hik
      go_wp2_with fail
      refine (hta.out _ hL).mono ?_
      rintro e w14 ⟨rfl, hL14⟩
      go_wp2_with fail
      refine (htb.out _ hL14).mono ?_
      rintro e w15 ⟨rfl, hL15⟩
      go_wp2
      go_ret
      exact ⟨rfl, chain hbF hL15.below⟩
    · have hi : (i : Int) < 8 := by omega
      have hi8 : i < S.length := by have := hSl.out; omega
      obtain ⟨⟨A, n, c⟩, ht⟩ : ∃ t, S[i]? = some t := ⟨_, List.getElem?_eq_getElem hi8⟩
      replace ht := Lib.hid ht
      go_wp2
      go_loopg [15] n (fun k kv wr => ∃ j : Nat, kv = .int .i64 j ∧ j + k = n ∧ KeepO w3 gl S wr)
      case atStart => exact ⟨0, rfl, by omega, hK⟩
      case round =>
        clear hK
        obtain ⟨j, rfl, hjk, hK⟩ := hrel
        have hcell := hK.cell i _ ht.out
        have hm := hK.mine _ (List.mem_of_getElem? ht.out)
        have hn40 := hm.1
        by_cases hj : j < n
        · have hji : (j : Int) < (n : Int) := by omega
          obtain ⟨b4, off, hA, h1, h2, h3, h4⟩ := hm.2 j hj
          simp only at hA hcell hn40
          subst hA
          obtain ⟨u, hu⟩ := Option.isSome_iff_exists.1 h3
          have hK2 := hK.set (off + j) (.int .u64 7) h1 h2
          clear h3 hm
          go_wp2
          go_roundg (gk - 1)
          case measure => omega
          case rel => exact ⟨j + 1, by go_num, by omega, hK2⟩
        · have hji : ¬ (j : Int) < (n : Int) := by omega
          simp only at hcell hn40
          clear hm
          go_wp2
          go_roundg (g1 - 1)
          case measure => omega
          case rel => exact ⟨i + 1, by go_num, by omega, hK⟩
end Go.Proofs.YtdclphnakdmgjaaDoor
