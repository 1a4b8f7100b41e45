/- The nat layer: copies. Conditions: lengths below 2^38. -/
import Derived.Test.YtjhdkdfiadlmcaaGreatDoorNatJ
import Derived.ArgAppend
namespace Go.Proofs.YtjhdkdfiadlmcaaGreatDoor
open Go.RowKit Go.Cal
/-- As GotU, but of the room nothing is known but that the words fit. -/
structure GotW (w : World) (base : Nat) (A : Option Addr) (c : Nat) (zs : List Nat) : Prop where
  rd : RdU w w.heap.size A zs
  cap : zs.length ≤ c
  small : c ≤ maxLen
  own : zs = [] ∨ ∃ b off, A = some ⟨b, off, none⟩ ∧ base ≤ b ∧ ∀ i, i < zs.length → w.frozen? ⟨b, off + i, none⟩ = false
theorem gotW_base {w : World} {base base' : Nat} {A : Option Addr} {c : Nat} {zs : List Nat} (h : GotW w base A c zs) (hb : base' ≤ base) : GotW w base' A c zs :=
  ⟨h.rd, h.cap, h.small, h.own.imp id fun ⟨b, off, e, h1, h2⟩ => ⟨b, off, e, by omega, h2⟩⟩
theorem own_base {w : World} {b b' : Nat} {e : TypeId} {n size : Nat} {v : Value} {xs : List Value} (h : w.ownsRow b e size v n xs) (hb : b' ≤ b) : w.ownsRow b' e size v n xs :=
  ⟨h.1, h.2.imp id fun ⟨g, cap, cur, h1, h2, h3⟩ => ⟨g, cap, cur, h1, by omega, h3⟩⟩
theorem blkU_of_own {w : World} {base : Nat} {v : Value} {xs : List Nat} (h : w.ownsRow base 36 1 v xs.length (lU xs)) (h0 : 0 < xs.length) :
    ∃ g c, v = .slice (some ⟨g, 0, none⟩) xs.length c ∧ BlkU w g 36 xs ∧ base ≤ g ∧ xs.length ≤ c := by
  obtain ⟨_, ⟨_, h1⟩ | ⟨g, cap, cur, rfl, hg, hw, hn, hm, hs, ht⟩⟩ := h
  · omega
  · refine ⟨g, cap, rfl, ⟨cur, hw, fun i hi => ?_⟩, hg, hn⟩
    rw [← Array.getElem?_toList, ← lU_at xs i hi, ← ht, List.getElem?_take_of_lt (by omega)]
theorem lU_len (xs : List Nat) : (lU xs).length = xs.length := by simp [lU]
theorem lU_get (xs : List Nat) (j : Nat) (h : j < xs.length) : (lU xs)[j]? = some (.int .u64 ((xs.getD j 0 : Nat) : Int)) := by
  simp [lU, List.getD_eq_getElem?_getD, h]
theorem gotW_of_own {w : World} {base : Nat} {v : Value} {xs : List Nat} (h : w.ownsRow base 36 1 v xs.length (lU xs)) (h0 : 0 < xs.length) :
    ∃ g c, v = .slice (some ⟨g, 0, none⟩) xs.length c ∧ GotW w base (some ⟨g, 0, none⟩) c xs := by
  obtain ⟨_, ⟨_, h1⟩ | ⟨g, cap, cur, rfl, hg, hw, hn, hm, hs, ht⟩⟩ := h
  · omega
  · have hlt := (Array.getElem?_eq_some_iff.1 hw).1
    refine ⟨g, cap, rfl, ⟨⟨.inr ⟨g, 0, rfl, hlt⟩, fun b off e j hj => ?_⟩, hn, hm, .inr ⟨g, 0, rfl, hg, fun j hj => ?_⟩⟩⟩
    · injection e with e
      injection e with e1 e2
      subst e1; subst e2
      have e3 : cur.toList[j]? = some (.int .u64 ((xs.getD j 0 : Nat) : Int)) := by
        rw [← lU_get xs j hj, ← ht, List.getElem?_take_of_lt (by omega)]
      simp [World.cell?, hw, ← Array.getElem?_toList, e3]
    · simp [World.frozen?, hw]
set_option maxRecDepth 100000 in
set_option maxHeartbeats 1000000 in
theorem clone_some {b off : Nat} {xs : List Nat} (c : Nat) (w : World) (h : RdU w w.heap.size (some ⟨b, off, none⟩) xs) (hn : xs.length ≤ 274877906944) (h0 : 0 < xs.length) :
    Calls Tryz.prog 43 #[.slice (some ⟨b, off, none⟩) xs.length c] w fun e w' => ∃ v, e = .returned v ∧ w'.ownsRow w.heap.size 36 1 v xs.length (lU xs) ∧ Below w.heap.size w w' := by
  obtain ⟨i0, hi, hz0, hz1, hz2⟩ := info_parts info_u64
  have hne : ∀ (a : Addr) (n c : Nat) (w : World), (binOp .eql 23 (.slice (some a) n c) (.slice none 0 0)).run Tryz.prog w = .ok (.bool false) w := fun _ _ _ _ => by kernel_rfl
  go_enter Tryz.func43, Tryz.ntmps43
  go_wp2_with (at_builtin; refine wpList_append_grows _ rfl _ _ 23 rfl 36 i0 (.int .u64 0) 1 8 under_nat hi hz0 hz1 hz2 rfl (by decide) _ 0 0 [] rfl (fun h => by cases h) rfl ?hold ⟨b, off, none⟩ xs.length c (lU xs) rfl ?c1 ?c2 ?c3 ?c4 ?c5 ?c6 ?_)
  case hold => intro _ _ j u hj; simp at hj
  case c1 => rw [lU_len, Nat.mul_one]
  case c2 =>
    intro j u hj
    rw [Addr.add_lit]
    rcases Nat.lt_or_ge j xs.length with hlt | hge
    · rw [lU_get xs j hlt] at hj
      injection hj with hj
      subst hj
      obtain ⟨b', o', e, hb', hc⟩ := h.at hlt
      injection e with e
      injection e with e1 e2
      subst e1; subst e2
      rw [World.cell?_alloc_past _ _ _ hb']
      exact hc j hlt
    · rw [List.getElem?_eq_none (by rw [lU_len]; exact hge)] at hj
      cases hj
  case c3 =>
    intro u hu
    simp only [lU, List.mem_map] at hu
    obtain ⟨x, _, rfl⟩ := hu
    rfl
  case c4 => omega
  case c5 => unfold maxLen; omega
  case c6 => omega
  intro v' w1 hown hgr
  clear hne
  go_wp2
  go_ret
  exact ⟨v', rfl, own_base hown (by omega), ((Below.refl _ _).alloc (Nat.le_refl _) _).grown hgr (by simp) (fun j hj => by cases hj)⟩
set_option maxRecDepth 100000 in
set_option maxHeartbeats 1000000 in
theorem clone_none (w : World) : Calls Tryz.prog 43 #[.slice none 0 0] w fun e w' => e = .returned (.slice none 0 0) ∧ w = w' := by
  have hne : ∀ (w : World), (binOp .eql 23 (.slice none 0 0) (.slice none 0 0)).run Tryz.prog w = .ok (.bool true) w := fun _ => by kernel_rfl
  go_enter Tryz.func43, Tryz.ntmps43
  go_wp2
  go_ret
  exact ⟨rfl, rfl⟩
set_option maxRecDepth 100000 in
set_option maxHeartbeats 1000000 in
theorem clone_empty (a : Addr) (c : Nat) (w : World) : Calls Tryz.prog 43 #[.slice (some a) 0 c] w fun e w' => ∃ g, e = .returned (.slice (some ⟨g, 0, none⟩) 0 0) ∧ Below w.heap.size w w' := by
  obtain ⟨i0, hi, hz0, hz1, hz2⟩ := info_parts info_u64
  have hne : ∀ (a : Addr) (n c : Nat) (w : World), (binOp .eql 23 (.slice (some a) n c) (.slice none 0 0)).run Tryz.prog w = .ok (.bool false) w := fun _ _ _ _ => by kernel_rfl
  go_enter Tryz.func43, Tryz.ntmps43
  go_wp2_with (at_builtin; refine wpList_append_arg _ rfl _ _ 23 rfl 36 i0 (.int .u64 0) 1 8 under_nat hi hz0 hz1 hz2 rfl (by decide) w.heap.size 0 0 0 [] rfl rfl (fun j u hj => by simp at hj) a 0 c [] rfl rfl (fun j u hj => by simp at hj) (fun u hu => by simp at hu) (fun _ j hj => by simp at hj) (by unfold maxLen; omega) (by omega) (fun _ => ?_) (fun h => by omega))
  clear hne
  go_wp2
  go_ret
  exact ⟨_, rfl, (Below.refl _ _).alloc (Nat.le_refl _) _⟩
theorem clone_any {A : Option Addr} {xs : List Nat} (c : Nat) (w : World) (h : RdU w w.heap.size A xs) (hn : xs.length ≤ 274877906944) (hA : A = none → c = 0) :
    Calls Tryz.prog 43 #[.slice A xs.length c] w fun e w' => ∃ A' c', e = .returned (.slice A' xs.length c') ∧ GotW w' w.heap.size A' c' xs ∧ Below w.heap.size w w' := by
  rcases Nat.eq_zero_or_pos xs.length with h0 | h0
  · obtain rfl := List.eq_nil_of_length_eq_zero h0
    cases A with
    | none =>
      rw [hA rfl]
      exact (clone_none w).mono fun e w' ⟨he, hw⟩ => ⟨none, 0, he, ⟨.nil, Nat.le_refl _, by omega, .inl rfl⟩, hw ▸ Below.refl _ _⟩
    | some a => exact (clone_empty a c w).mono fun e w' ⟨g, he, hw⟩ => ⟨_, 0, he, ⟨.nil, Nat.le_refl _, by omega, .inl rfl⟩, hw⟩
  · obtain ⟨b, off, rfl, _⟩ := h.at h0
    refine (clone_some c w h hn h0).mono fun e w' ⟨v, he, ho, hb⟩ => ?_
    obtain ⟨g, c', rfl, hg⟩ := gotW_of_own ho h0
    exact ⟨_, c', he, hg, hb⟩
/-- The call returns a slice of its own that reads as the number N; of its room nothing is known. -/
def RetW (w : World) (N : Nat) (e : Ending) (w' : World) : Prop :=
  ∃ A c zs, e = .returned (.slice A (zs : List Nat).length c) ∧ GotW w' w.heap.size A c zs ∧ Nrm zs N ∧ Below w.heap.size w w'
set_option maxHeartbeats 1000000 in
theorem norm_any {A : Option Addr} {xs : List Nat} (c : Nat) (w : World) (h : RdU w w.heap.size A xs) (hc : xs.length ≤ c) (hn : xs.length ≤ 274877906944) (d : Dig 18446744073709551616 xs) :
    Calls Tryz.prog 17 #[.slice A xs.length c] w (RetW w (vl 18446744073709551616 xs)) := by
  go_enter Tryz.func17, Tryz.ntmps17
  go_wp2_with fail
  refine (trim_nat _ _ h hc (by omega) d).mono ?_
  rintro e w1 ⟨⟨zs1, rfl, r1, t1, e1, v1, l1⟩, rfl⟩
  go_wp2_with fail
  refine (clone_any zs1.length w r1 (by omega) (fun e => ?_)).mono ?_
  · subst e
    rcases r1.place with h0 | ⟨_, _, h0, _⟩
    · rw [h0]; rfl
    · cases h0
  rintro e w1 ⟨A', c', rfl, hg, hb⟩
  go_wp2
  go_ret
  exact ⟨A', c', zs1, rfl, hg, ⟨e1, t1, v1⟩, hb⟩
set_option maxHeartbeats 1000000 in
theorem of_any (n : Nat) (hn : n < 18446744073709551616) (w : World) : Calls Tryz.prog 18 #[.int .u64 n] w (RetW w n) := by
  have hB := BlkU.lit w 36 [n] #[.int .u64 n] rfl
  have hrd := (hB.rd 0 1 (by simp)).more (B' := (w.alloc (.cells #[.int .u64 (n : Int)] 36)).heap.size) (by simp)
  have hd : Dig 18446744073709551616 [n] := fun x hx => by simp at hx; omega
  have hnorm := norm_any 1 _ hrd (by simp) (by simp) hd
  have hv : vl 18446744073709551616 [n] = n := by simp [vl]
  simp only [List.drop_zero, List.take_succ_cons, List.take_zero] at hnorm
  rw [hv] at hnorm
  replace hnorm := Lib.hid hnorm
  clear hrd hB hd hv
  go_enter Tryz.func18, Tryz.ntmps18
  go_wp2_with fail
  refine hnorm.out.mono ?_
  rintro e w1 ⟨A', c', zs, rfl, hg, hz, hb⟩
  go_wp2
  go_ret
  exact ⟨A', c', zs, rfl, gotW_base hg (by simp), hz, chain ((Below.refl _ _).alloc (Nat.le_refl _) _) hb⟩
end Go.Proofs.YtjhdkdfiadlmcaaGreatDoor
