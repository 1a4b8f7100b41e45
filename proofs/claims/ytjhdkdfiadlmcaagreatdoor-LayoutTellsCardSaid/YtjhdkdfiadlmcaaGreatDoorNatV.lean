/- The nat layer, by values: what each call tells, where a list of live numbers is kept. Conditions: a number's words are counted. -/
import Derived.Test.YtjhdkdfiadlmcaaGreatDoorNatQ
namespace Go.Proofs.YtjhdkdfiadlmcaaGreatDoor
open Go.RowKit Go.Cal
/-- The value reads as the number N, of k words at most. -/
def IsN (w : World) (v : Value) (k N : Nat) : Prop :=
  ∃ A c zs, v = .slice A (zs : List Nat).length c ∧ RdU w w.heap.size A zs ∧ zs.length ≤ c ∧ zs.length ≤ k ∧ Dig 18446744073709551616 zs ∧ vl 18446744073709551616 zs = N
theorem IsN.below {w w' : World} {v : Value} {k N : Nat} (h : IsN w v k N) (hb : Below w.heap.size w w') : IsN w' v k N := by
  obtain ⟨A, c, zs, h1, h2, h3⟩ := h
  exact ⟨A, c, zs, h1, (h2.below hb).more hb.size, h3⟩
theorem IsN.drawn {w w' : World} {v : Value} {k N : Nat} (h : IsN w v k N) (hd : Drawn w w') : IsN w' v k N := h.below (hd.below _)
theorem IsN.lt {w : World} {v : Value} {k N : Nat} (h : IsN w v k N) : N < 18446744073709551616 ^ k := by
  obtain ⟨A, c, zs, h1, h2, h3, h4, h5, h6⟩ := h
  have h7 := vl_lt h5
  have h8 : 18446744073709551616 ^ zs.length ≤ 18446744073709551616 ^ k := Nat.pow_le_pow_right (by omega) h4
  omega
theorem IsN.nil (w : World) : IsN w (.slice none 0 0) 0 0 := ⟨none, 0, [], rfl, .nil, Nat.le_refl _, Nat.le_refl _, fun x hx => by simp at hx, rfl⟩
theorem IsN.ofW {w : World} {base k N : Nat} {A : Option Addr} {c : Nat} {zs : List Nat} (g : GotW w base A c zs) (n : Nrm zs N) (hk : N < 18446744073709551616 ^ k) : IsN w (.slice A zs.length c) k N :=
  ⟨A, c, zs, rfl, g.rd, g.cap, n.length_le hk, n.dig, n.val⟩
theorem IsN.more {w : World} {v : Value} {k k' N : Nat} (h : IsN w v k N) (hk : k ≤ k') : IsN w v k' N := by
  obtain ⟨A, c, zs, h1, h2, h3, h4, h5⟩ := h
  exact ⟨A, c, zs, h1, h2, h3, by omega, h5⟩
/-- Below B nothing has turned; the values of the list are live. -/
structure Live (B w : World) (l : List (Value × Nat × Nat)) : Prop where
  below : Below B.heap.size B w
  all : ∀ p ∈ l, IsN w p.1 p.2.1 p.2.2
section
variable {B w : World} {l : List (Value × Nat × Nat)}
theorem Live.size (h : Live B w l) : B.heap.size ≤ w.heap.size := h.below.size
theorem Live.start (w : World) : Live w w [] := ⟨.refl _ _, fun p hp => by simp at hp⟩
theorem Live.get (h : Live B w l) {v : Value} {k N : Nat} (hm : (v, k, N) ∈ l) : IsN w v k N := h.all _ hm
theorem Live.go {w' : World} (h : Live B w l) (hb : Below w.heap.size w w') : Live B w' l := ⟨h.below.trans (hb.mono h.size), fun p hp => (h.all p hp).below hb⟩
theorem Live.put {v : Value} {k N : Nat} (h : Live B w l) (hv : IsN w v k N) : Live B w ((v, k, N) :: l) := ⟨h.below, fun p hp => by
  rcases List.mem_cons.1 hp with rfl | hp
  · exact hv
  · exact h.all p hp⟩
theorem Live.keep {l' : List (Value × Nat × Nat)} (h : Live B w l) (hs : ∀ p ∈ l', p ∈ l) : Live B w l' := ⟨h.below, fun p hp => h.all p (hs p hp)⟩
theorem Live.tab (h : Live B w l) (hT : Tab10 B) : Tab10 w := hT.below h.below
/-- A call tells one number more. -/
def Tells (B : World) (l : List (Value × Nat × Nat)) (k N : Nat) (e : Ending) (w' : World) : Prop := ∃ v, e = .returned v ∧ Live B w' ((v, k, N) :: l)
theorem tells_of_retN {N k : Nat} {e : Ending} {w' : World} (h : Live B w l) (hk : N < 18446744073709551616 ^ k) (hr : RetN w N e w') : Tells B l k N e w' := by
  obtain ⟨A, c, zs, rfl, g, n, hb⟩ := hr
  exact ⟨_, rfl, (h.go hb).put (.ofW (gotU_toW g) n hk)⟩
theorem tells_of_retW {N k : Nat} {e : Ending} {w' : World} (h : Live B w l) (hk : N < 18446744073709551616 ^ k) (hr : RetW w N e w') : Tells B l k N e w' := by
  obtain ⟨A, c, zs, rfl, g, n, hb⟩ := hr
  exact ⟨_, rfl, (h.go hb).put (.ofW g n hk)⟩
variable {v1 v2 : Value} {k1 k2 X Y : Nat}
theorem add_l (h : Live B w l) (m1 : (v1, k1, X) ∈ l) (m2 : (v2, k2, Y) ∈ l) (b1 : k1 ≤ 1048576) (b2 : k2 ≤ 1048576) :
    Calls Tryz.prog 71 #[v1, v2] w (Tells B l (max k1 k2 + 1) (X + Y)) := by
  have i1 := (h.get m1).lt
  have i2 := (h.get m2).lt
  obtain ⟨A1, c1, z1, rfl, r1, hc1, hl1, d1, rfl⟩ := h.get m1
  obtain ⟨A2, c2, z2, rfl, r2, hc2, hl2, d2, rfl⟩ := h.get m2
  refine (add_any c1 c2 w r1 r2 (by omega) (by omega) d1 d2).mono fun e w' hr => tells_of_retN h ?_ hr
  have e1 : 18446744073709551616 ^ k1 ≤ 18446744073709551616 ^ max k1 k2 := Nat.pow_le_pow_right (by omega) (Nat.le_max_left _ _)
  have e2 : 18446744073709551616 ^ k2 ≤ 18446744073709551616 ^ max k1 k2 := Nat.pow_le_pow_right (by omega) (Nat.le_max_right _ _)
  rw [Nat.pow_succ]
  omega
theorem mul_l (h : Live B w l) (m1 : (v1, k1, X) ∈ l) (m2 : (v2, k2, Y) ∈ l) (b1 : k1 ≤ 1048576) (b2 : k2 ≤ 1048576) :
    Calls Tryz.prog 72 #[v1, v2] w (Tells B l (k1 + k2) (X * Y)) := by
  have i1 := (h.get m1).lt
  have i2 := (h.get m2).lt
  obtain ⟨A1, c1, z1, rfl, r1, hc1, hl1, d1, rfl⟩ := h.get m1
  obtain ⟨A2, c2, z2, rfl, r2, hc2, hl2, d2, rfl⟩ := h.get m2
  refine (mul_any c1 c2 w r1 r2 (by omega) (by omega) d1 d2).mono fun e w' hr => tells_of_retN h ?_ hr
  rw [Nat.pow_add]
  exact Nat.mul_lt_mul'' i1 i2
theorem cmp_l (h : Live B w l) (m1 : (v1, k1, X) ∈ l) (m2 : (v2, k2, Y) ∈ l) (b1 : k1 ≤ 1048576) (b2 : k2 ≤ 1048576) :
    Calls Tryz.prog 20 #[v1, v2] w fun e w' => e = .returned (.int .i64 (cmpV (X : Int) (Y : Int))) ∧ Live B w' l := by
  obtain ⟨A1, c1, z1, rfl, r1, hc1, hl1, d1, rfl⟩ := h.get m1
  obtain ⟨A2, c2, z2, rfl, r2, hc2, hl2, d2, rfl⟩ := h.get m2
  exact (cmp_any c1 c2 w r1 r2 hc1 hc2 (by omega) (by omega) d1 d2).mono fun e w' ⟨he, hd⟩ => ⟨he, h.go (hd.below _)⟩
/-- Sub, where there is a difference. -/
def TellsSub (B : World) (l : List (Value × Nat × Nat)) (k N : Nat) (e : Ending) (w' : World) : Prop := ∃ v, e = .returned (.tuple #[v, .bool true]) ∧ Live B w' ((v, k, N) :: l)
/-- Div, by a number that is not 0. -/
def TellsDiv (B : World) (l : List (Value × Nat × Nat)) (k k' Q R : Nat) (e : Ending) (w' : World) : Prop := ∃ v v', e = .returned (.tuple #[v, v', .bool true]) ∧ Live B w' ((v, k, Q) :: (v', k', R) :: l)
theorem of_l (n : Nat) (hn : n < 18446744073709551616) (h : Live B w l) : Calls Tryz.prog 18 #[.int .u64 n] w (Tells B l 1 n) :=
  (of_any n hn w).mono fun _ _ hr => tells_of_retW h (by rw [Nat.pow_one]; exact hn) hr
theorem norm_l (h : Live B w l) (m1 : (v1, k1, X) ∈ l) (b1 : k1 ≤ 1048576) : Calls Tryz.prog 17 #[v1] w (Tells B l k1 X) := by
  have i1 := (h.get m1).lt
  obtain ⟨A1, c1, z1, rfl, r1, hc1, hl1, d1, rfl⟩ := h.get m1
  exact (norm_any c1 w r1 hc1 (by omega) d1).mono fun e w' hr => tells_of_retW h i1 hr
theorem text_l (hT : Tab10 B) (h : Live B w l) (m1 : (v1, k1, X) ∈ l) (b1 : k1 ≤ 1048576) :
    Calls Tryz.prog 14 #[v1] w fun e w' => e = .returned (.string ⟨(Lib.decDigits X).toArray⟩) ∧ Live B w' l := by
  obtain ⟨A1, c1, z1, rfl, r1, hc1, hl1, d1, rfl⟩ := h.get m1
  exact (text_any c1 w r1 hc1 (by omega) d1 (h.tab hT)).mono fun e w' ⟨he, hb⟩ => ⟨he, h.go hb⟩
theorem parse_l (s : ByteArray) (hs : POk s.data.toList) (h : Live B w l) : Calls Tryz.prog 41 #[.string s] w (TellsSub B l s.data.toList.length (numV s.data.toList)) :=
  (parse_any s w hs).mono fun _ _ ⟨⟨_, _, _, he, g, n⟩, hb⟩ => ⟨_, he, (h.go hb).put (.ofW g n (Nat.lt_of_lt_of_le (numV_lt _ hs.dig) (Nat.pow_le_pow_left (by omega) _)))⟩
theorem parse_less (s : ByteArray) (hm : s.size ≤ maxLen) (hs : ¬ POk s.data.toList) (h : Live B w l) : Calls Tryz.prog 41 #[.string s] w fun e w' => e = .returned (.tuple #[.slice none 0 0, .bool false]) ∧ Live B w' l :=
  (parse_no s w hm hs).mono fun _ _ ⟨he, hb⟩ => ⟨he, h.go hb⟩
end
/-- A slice that the text itself lays. -/
theorem IsN.lit (w : World) (L : List Nat) (cs : Array Value) (hcs : cs = (lU L).toArray) (hd : Dig 18446744073709551616 L) : IsN (w.alloc (.cells cs 36)) (.slice (some ⟨w.heap.size, 0, none⟩) L.length L.length) L.length (vl 18446744073709551616 L) := by
  have hrd := ((BlkU.lit w 36 L cs hcs).rd 0 L.length (by omega)).more (B' := (w.alloc (.cells cs 36)).heap.size) (by simp)
  simp only [List.drop_zero, List.take_length] at hrd
  exact ⟨_, _, L, rfl, hrd, Nat.le_refl _, Nat.le_refl _, hd, rfl⟩
theorem Live.lit {B w : World} {l : List (Value × Nat × Nat)} (h : Live B w l) (L : List Nat) (cs : Array Value) (k N : Nat) (hcs : cs = (lU L).toArray) (hd : L.all (· < 18446744073709551616) = true) (hk : L.length = k) (hv : vl 18446744073709551616 L = N) :
    Live B (w.alloc (.cells cs 36)) ((.slice (some ⟨w.heap.size, 0, none⟩) k k, k, N) :: l) := by
  subst hk; subst hv
  exact (h.go ((Below.refl _ _).alloc (Nat.le_refl _) _)).put (.lit w L cs hcs fun x hx => by simpa using List.all_eq_true.1 hd x hx)
/-- A numeral that is told by its digits. -/
theorem dec_is {l : List UInt8} {N : Nat} (h : numV l = N) (h0 : l ≠ []) (hd : l.all isDig = true) (hh : l.head? = some 48 → l.length = 1) : Lib.decDigits N = l := by
  rw [← h]
  exact dec_numV h0 (fun c hc => List.all_eq_true.1 hd c hc) hh
def pOkB (l : List UInt8) : Bool := !l.isEmpty && decide (l.length ≤ 2000) && (!(l.head? == some 48) || decide (l.length ≤ 1)) && l.all isDig
theorem pOk_iff (l : List UInt8) : POk l ↔ pOkB l = true := by
  unfold pOkB
  constructor
  · rintro ⟨h1, h2, h3, h4⟩
    have h5 : l.all isDig = true := List.all_eq_true.2 h4
    simp only [h5, Bool.and_true, decide_eq_true h2, Bool.and_eq_true, Bool.or_eq_true, decide_eq_true_eq, Bool.not_eq_true']
    refine ⟨by simpa using h1, ?_⟩
    by_cases e : l.head? = some 48
    · exact .inr (h3 e)
    · exact .inl (by simpa using e)
  · intro h
    simp only [Bool.and_eq_true, Bool.or_eq_true, decide_eq_true_eq, Bool.not_eq_true'] at h
    obtain ⟨⟨⟨h1, h2⟩, h3⟩, h4⟩ := h
    refine ⟨by simpa using h1, h2, fun e => ?_, fun c hc => List.all_eq_true.1 h4 c hc⟩
    rcases h3 with h3 | h3
    · rw [e] at h3; simp at h3
    · exact h3
section
variable {B w : World} {l : List (Value × Nat × Nat)} {v1 v2 : Value} {k1 k2 X Y : Nat}
theorem parse_is (t : List UInt8) (k N : Nat) (ht : pOkB t = true) (hk : t.length = k) (hv : numV t = N) (h : Live B w l) : Calls Tryz.prog 41 #[.string ⟨t.toArray⟩] w (TellsSub B l k N) := by
  subst hk; subst hv
  exact parse_l ⟨t.toArray⟩ ((pOk_iff _).2 ht) h
theorem parse_isnt (t : List UInt8) (ht : pOkB t = false) (hk : t.length ≤ maxLen) (h : Live B w l) : Calls Tryz.prog 41 #[.string ⟨t.toArray⟩] w fun e w' => e = .returned (.tuple #[.slice none 0 0, .bool false]) ∧ Live B w' l :=
  parse_less ⟨t.toArray⟩ (by simpa [ByteArray.size] using hk) (fun hp => by rw [(pOk_iff _).1 hp] at ht; cases ht) h
theorem text_is (t : List UInt8) (hT : Tab10 B) (h : Live B w l) (m1 : (v1, k1, X) ∈ l) (b1 : k1 ≤ 1048576) (ht : Lib.decDigits X = t) :
    Calls Tryz.prog 14 #[v1] w fun e w' => e = .returned (.string ⟨t.toArray⟩) ∧ Live B w' l := by
  subst ht
  exact text_l hT h m1 b1
theorem of_zero (h : Live B w l) : Calls Tryz.prog 18 #[.int .u64 0] w fun e w' => ∃ A c, e = .returned (.slice A 0 c) ∧ Live B w' l :=
  (of_any 0 (by omega) w).mono fun e w' ⟨A, c, zs, he, g, n, hb⟩ => by
    have h0 : zs.length ≤ 0 := n.length_le (by omega)
    obtain rfl := List.eq_nil_of_length_eq_zero (Nat.le_zero.1 h0)
    exact ⟨A, c, he, h.go hb⟩
theorem Live.nil (h : Live B w l) : Live B w ((.slice none 0 0, 0, 0) :: l) := h.put (.nil w)
end
end Go.Proofs.YtjhdkdfiadlmcaaGreatDoor
