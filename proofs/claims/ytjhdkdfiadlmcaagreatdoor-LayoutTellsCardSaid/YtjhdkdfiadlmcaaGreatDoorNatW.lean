/- The nat layer, by values, where a number's words have no noughts at the end; live facts of any kind. Conditions: a number's words are counted. -/
import Derived.Test.YtjhdkdfiadlmcaaGreatDoorNatT
namespace Go.Proofs.YtjhdkdfiadlmcaaGreatDoor
open Go.RowKit Go.Cal
/-- A fact that stays where old memory stays. -/
def Stable (P : World → Prop) : Prop := ∀ w w', P w → Below w.heap.size w w' → P w'
/-- Below B nothing has turned; the facts of the list hold. -/
structure LiveP (B w : World) (l : List (World → Prop)) : Prop where
  below : Below B.heap.size B w
  all : ∀ P ∈ l, Stable P ∧ P w
section
variable {B w w' : World} {l l' : List (World → Prop)} {P : World → Prop}
theorem LiveP.start (w : World) : LiveP w w [] := ⟨.refl _ _, fun p hp => by simp at hp⟩
theorem LiveP.size (h : LiveP B w l) : B.heap.size ≤ w.heap.size := h.below.size
theorem LiveP.get (h : LiveP B w l) (hm : P ∈ l) : P w := (h.all _ hm).2
theorem LiveP.go (h : LiveP B w l) (hb : Below w.heap.size w w') : LiveP B w' l := ⟨h.below.trans (hb.mono h.size), fun p hp => ⟨(h.all p hp).1, (h.all p hp).1 _ _ (h.all p hp).2 hb⟩⟩
theorem LiveP.put (h : LiveP B w l) (hs : Stable P) (hv : P w) : LiveP B w (P :: l) := ⟨h.below, fun p hp => by
  rcases List.mem_cons.1 hp with rfl | hp
  · exact ⟨hs, hv⟩
  · exact h.all p hp⟩
theorem LiveP.keep (h : LiveP B w l) (hs : ∀ p ∈ l', p ∈ l) : LiveP B w l' := ⟨h.below, fun p hp => h.all p (hs p hp)⟩
end
/-- The value reads as the number N: its words have no noughts at the end. -/
def IsT (w : World) (v : Value) (k N : Nat) : Prop :=
  ∃ A c zs, v = .slice A (zs : List Nat).length c ∧ RdU w w.heap.size A zs ∧ zs.length ≤ c ∧ c ≤ maxLen ∧ zs.length ≤ k ∧ Nrm zs N
theorem IsT.below {w w' : World} {v : Value} {k N : Nat} (h : IsT w v k N) (hb : Below w.heap.size w w') : IsT w' v k N := by
  obtain ⟨A, c, zs, h1, h2, h3⟩ := h
  exact ⟨A, c, zs, h1, (h2.below hb).more hb.size, h3⟩
theorem IsT.isN {w : World} {v : Value} {k N : Nat} (h : IsT w v k N) : IsN w v k N := by
  obtain ⟨A, c, zs, h1, h2, h3, h4, h5, h6⟩ := h
  exact ⟨A, c, zs, h1, h2, h3, h5, h6.dig, h6.val⟩
theorem IsT.ofW {w : World} {base k N : Nat} {A : Option Addr} {c : Nat} {zs : List Nat} (g : GotW w base A c zs) (n : Nrm zs N) (hk : N < 18446744073709551616 ^ k) : IsT w (.slice A zs.length c) k N :=
  ⟨A, c, zs, rfl, g.rd, g.cap, g.small, n.length_le hk, n⟩
def pN (v : Value) (k N : Nat) (w : World) : Prop := IsN w v k N
def pT (v : Value) (k N : Nat) (w : World) : Prop := IsT w v k N
theorem pN_st (v : Value) (k N : Nat) : Stable (pN v k N) := fun _ _ h hb => IsN.below h hb
theorem pT_st (v : Value) (k N : Nat) : Stable (pT v k N) := fun _ _ h hb => IsT.below h hb
/-- A call tells one number. -/
def TellsT (w : World) (k N : Nat) (e : Ending) (w' : World) : Prop := ∃ v, e = .returned v ∧ pT v k N w' ∧ Below w.heap.size w w'
section
variable {w : World} {v1 v2 : Value} {k1 k2 X Y : Nat}
theorem tellsT_of_retN {N k : Nat} {e : Ending} {w' : World} (hk : N < 18446744073709551616 ^ k) (hr : RetN w N e w') : TellsT w k N e w' := by
  obtain ⟨A, c, zs, rfl, g, n, hb⟩ := hr
  exact ⟨_, rfl, .ofW (gotU_toW g) n hk, hb⟩
theorem tellsT_of_retW {N k : Nat} {e : Ending} {w' : World} (hk : N < 18446744073709551616 ^ k) (hr : RetW w N e w') : TellsT w k N e w' := by
  obtain ⟨A, c, zs, rfl, g, n, hb⟩ := hr
  exact ⟨_, rfl, .ofW g n hk, hb⟩
theorem add_t (h1 : IsN w v1 k1 X) (h2 : IsN w v2 k2 Y) (b1 : k1 ≤ 1048576) (b2 : k2 ≤ 1048576) : Calls Tryz.prog 71 #[v1, v2] w (TellsT w (max k1 k2 + 1) (X + Y)) := by
  have i1 := h1.lt
  have i2 := h2.lt
  obtain ⟨A1, c1, z1, rfl, r1, hc1, hl1, d1, rfl⟩ := h1
  obtain ⟨A2, c2, z2, rfl, r2, hc2, hl2, d2, rfl⟩ := h2
  refine (add_any c1 c2 w r1 r2 (by omega) (by omega) d1 d2).mono fun e w' hr => tellsT_of_retN ?_ hr
  have e1 : 18446744073709551616 ^ k1 ≤ 18446744073709551616 ^ max k1 k2 := Nat.pow_le_pow_right (by omega) (Nat.le_max_left _ _)
  have e2 : 18446744073709551616 ^ k2 ≤ 18446744073709551616 ^ max k1 k2 := Nat.pow_le_pow_right (by omega) (Nat.le_max_right _ _)
  rw [Nat.pow_succ]
  omega
theorem mul_t (h1 : IsN w v1 k1 X) (h2 : IsN w v2 k2 Y) (b1 : k1 ≤ 1048576) (b2 : k2 ≤ 1048576) : Calls Tryz.prog 72 #[v1, v2] w (TellsT w (k1 + k2) (X * Y)) := by
  have i1 := h1.lt
  have i2 := h2.lt
  obtain ⟨A1, c1, z1, rfl, r1, hc1, hl1, d1, rfl⟩ := h1
  obtain ⟨A2, c2, z2, rfl, r2, hc2, hl2, d2, rfl⟩ := h2
  refine (mul_any c1 c2 w r1 r2 (by omega) (by omega) d1 d2).mono fun e w' hr => tellsT_of_retN ?_ hr
  rw [Nat.pow_add]
  exact Nat.mul_lt_mul'' i1 i2
theorem cmp_t (h1 : IsN w v1 k1 X) (h2 : IsN w v2 k2 Y) (b1 : k1 ≤ 1048576) (b2 : k2 ≤ 1048576) : Calls Tryz.prog 20 #[v1, v2] w fun e w' => e = .returned (.int .i64 (cmpV (X : Int) (Y : Int))) ∧ Below w.heap.size w w' := by
  obtain ⟨A1, c1, z1, rfl, r1, hc1, hl1, d1, rfl⟩ := h1
  obtain ⟨A2, c2, z2, rfl, r2, hc2, hl2, d2, rfl⟩ := h2
  exact (cmp_any c1 c2 w r1 r2 hc1 hc2 (by omega) (by omega) d1 d2).mono fun e w' ⟨he, hd⟩ => ⟨he, hd.below _⟩
/-- Sub and Parse, where there is a number. -/
def TellsTO (w : World) (k N : Nat) (e : Ending) (w' : World) : Prop := ∃ v, e = .returned (.tuple #[v, .bool true]) ∧ pT v k N w' ∧ Below w.heap.size w w'
def TellsNo (w : World) (e : Ending) (w' : World) : Prop := e = .returned (.tuple #[.slice none 0 0, .bool false]) ∧ Below w.heap.size w w'
def TellsTD (w : World) (k k' Q R : Nat) (e : Ending) (w' : World) : Prop := ∃ v v', e = .returned (.tuple #[v, v', .bool true]) ∧ pT v k Q w' ∧ pT v' k' R w' ∧ Below w.heap.size w w'
theorem norm_t (h1 : IsN w v1 k1 X) (b1 : k1 ≤ 1048576) : Calls Tryz.prog 17 #[v1] w (TellsT w k1 X) := by
  have i1 := h1.lt
  obtain ⟨A1, c1, z1, rfl, r1, hc1, hl1, d1, rfl⟩ := h1
  exact (norm_any c1 w r1 hc1 (by omega) d1).mono fun e w' hr => tellsT_of_retW i1 hr
end
theorem of_t (w : World) (n : Nat) (hn : n < 18446744073709551616) : Calls Tryz.prog 18 #[.int .u64 n] w (TellsT w 1 n) :=
  (of_any n hn w).mono fun _ _ hr => tellsT_of_retW (by rw [Nat.pow_one]; exact hn) hr
theorem parse_t (w : World) (s : ByteArray) (hs : POk s.data.toList) : Calls Tryz.prog 41 #[.string s] w (TellsTO w s.data.toList.length (numV s.data.toList)) :=
  (parse_any s w hs).mono fun _ _ ⟨⟨_, _, _, he, g, n⟩, hb⟩ => ⟨_, he, .ofW g n (Nat.lt_of_lt_of_le (numV_lt _ hs.dig) (Nat.pow_le_pow_left (by omega) _)), hb⟩
end Go.Proofs.YtjhdkdfiadlmcaaGreatDoor
