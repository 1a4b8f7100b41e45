/- The nat layer: copies. Conditions: lengths below 2^38. -/
/- Plain numbers: the loop of long division, over digits that are each right. -/
/- The nat layer: Div. Conditions: lengths below 2^36. -/
/- The nat layer: Word, Bits, Bit, Even. Conditions: lengths below 2^36. -/
import Derived.Test.YtabgfdingdmnlaaGreatDoorTells05
import Derived.ArgAppend
namespace Go.Proofs.YtabgfdingdmnlaaGreatDoor
open Go.RowKit Go.Cal
/-- As GotU, but of the room nothing is known but that the words fit. -/
structure GotW (w : World) (base : Nat) (A : Option Addr) (c : Nat) (zs : List Nat) : Prop where
  rd : RdU w w.heap.size A zs
  cap : zs.length ≤ c
  small : c ≤ maxLen
  own : zs = [] ∨ ∃ b off, A = some ⟨b, off, none⟩ ∧ base ≤ b ∧ ∀ i, i < zs.length → w.frozen? ⟨b, off + i, none⟩ = false
theorem gotW_base {w : World} {base base' : Nat} {A : Option Addr} {c : Nat} {zs : List Nat} (h : GotW w base A c zs) (hb : base' ≤ base) : GotW w base' A c zs :=
  ⟨h.rd, h.cap, h.small, h.own.imp id fun ⟨b, off, e, h1, h2⟩ => ⟨b, off, e, by omega, h2⟩⟩
theorem own_base {w : World} {b b' : Nat} {e : TypeId} {n size : Nat} {v : Value} {xs : List Value} (h : w.ownsRow b e size v n xs) (hb : b' ≤ b) : w.ownsRow b' e size v n xs :=
  ⟨h.1, h.2.imp id fun ⟨g, cap, cur, h1, h2, h3⟩ => ⟨g, cap, cur, h1, by omega, h3⟩⟩
theorem blkU_of_own {w : World} {base : Nat} {v : Value} {xs : List Nat} (h : w.ownsRow base 50 1 v xs.length (lU xs)) (h0 : 0 < xs.length) :
    ∃ g c, v = .slice (some ⟨g, 0, none⟩) xs.length c ∧ BlkU w g 50 xs ∧ base ≤ g ∧ xs.length ≤ c := by
  obtain ⟨_, ⟨_, h1⟩ | ⟨g, cap, cur, rfl, hg, hw, hn, hm, hs, ht⟩⟩ := h
  · omega
  · refine ⟨g, cap, rfl, ⟨cur, hw, fun i hi => ?_⟩, hg, hn⟩
    rw [← Array.getElem?_toList, ← lU_at xs i hi, ← ht, List.getElem?_take_of_lt (by omega)]
theorem lU_len (xs : List Nat) : (lU xs).length = xs.length := by simp [lU]
theorem lU_get (xs : List Nat) (j : Nat) (h : j < xs.length) : (lU xs)[j]? = some (.int .u64 ((xs.getD j 0 : Nat) : Int)) := by
  simp [lU, List.getD_eq_getElem?_getD, h]
theorem gotW_of_own {w : World} {base : Nat} {v : Value} {xs : List Nat} (h : w.ownsRow base 50 1 v xs.length (lU xs)) (h0 : 0 < xs.length) :
    ∃ g c, v = .slice (some ⟨g, 0, none⟩) xs.length c ∧ GotW w base (some ⟨g, 0, none⟩) c xs := by
  obtain ⟨_, ⟨_, h1⟩ | ⟨g, cap, cur, rfl, hg, hw, hn, hm, hs, ht⟩⟩ := h
  · omega
  · have hlt := (Array.getElem?_eq_some_iff.1 hw).1
    refine ⟨g, cap, rfl, ⟨⟨.inr ⟨g, 0, rfl, hlt⟩, fun b off e j hj => ?_⟩, hn, hm, .inr ⟨g, 0, rfl, hg, fun j hj => ?_⟩⟩⟩
    · injection e with e
      injection e with e1 e2
      subst e1; subst e2
      have e3 : cur.toList[j]? = some (.int .u64 ((xs.getD j 0 : Nat) : Int)) := by
        rw [← lU_get xs j hj, ← ht, List.getElem?_take_of_lt (by omega)]
      simp [World.cell?, hw, ← Array.getElem?_toList, e3]
    · simp [World.frozen?, hw]
set_option maxRecDepth 100000 in
set_option maxHeartbeats 1000000 in
theorem clone_some {b off : Nat} {xs : List Nat} (c : Nat) (w : World) (h : RdU w w.heap.size (some ⟨b, off, none⟩) xs) (hn : xs.length ≤ 274877906944) (h0 : 0 < xs.length) :
    Calls Tryz.prog 93 #[.slice (some ⟨b, off, none⟩) xs.length c] w fun e w' => ∃ v, e = .returned v ∧ w'.ownsRow w.heap.size 50 1 v xs.length (lU xs) ∧ Below w.heap.size w w' := by
  obtain ⟨i0, hi, hz0, hz1, hz2⟩ := info_parts info_u64
  have hne : ∀ (a : Addr) (n c : Nat) (w : World), (binOp .eql 25 (.slice (some a) n c) (.slice none 0 0)).run Tryz.prog w = .ok (.bool false) w := fun _ _ _ _ => by kernel_rfl
  go_enter Tryz.func93, Tryz.ntmps93
  go_wp2_with (at_builtin; refine wpList_append_grows _ rfl _ _ 25 rfl 50 i0 (.int .u64 0) 1 8 under_nat hi hz0 hz1 hz2 rfl (by decide) _ 0 0 [] rfl (fun h => by cases h) rfl ?hold ⟨b, off, none⟩ xs.length c (lU xs) rfl ?c1 ?c2 ?c3 ?c4 ?c5 ?c6 ?_)
  case hold => intro _ _ j u hj; simp at hj
  case c1 => rw [lU_len, Nat.mul_one]
  case c2 =>
    intro j u hj
    rw [Addr.add_lit]
    rcases Nat.lt_or_ge j xs.length with hlt | hge
    · rw [lU_get xs j hlt] at hj
      injection hj with hj
      subst hj
      obtain ⟨b', o', e, hb', hc⟩ := h.at hlt
      injection e with e
      injection e with e1 e2
      subst e1; subst e2
      rw [World.cell?_alloc_past _ _ _ hb']
      exact hc j hlt
    · rw [List.getElem?_eq_none (by rw [lU_len]; exact hge)] at hj
      cases hj
  case c3 =>
    intro u hu
    simp only [lU, List.mem_map] at hu
    obtain ⟨x, _, rfl⟩ := hu
    rfl
  case c4 => omega
  case c5 => unfold maxLen; omega
  case c6 => omega
  intro v' w1 hown hgr
  clear hne
  go_wp2
  go_ret
  exact ⟨v', rfl, own_base hown (by omega), ((Below.refl _ _).alloc (Nat.le_refl _) _).grown hgr (by simp) (fun j hj => by cases hj)⟩
set_option maxRecDepth 100000 in
set_option maxHeartbeats 1000000 in
theorem clone_none (w : World) : Calls Tryz.prog 93 #[.slice none 0 0] w fun e w' => e = .returned (.slice none 0 0) ∧ w = w' := by
  have hne : ∀ (w : World), (binOp .eql 25 (.slice none 0 0) (.slice none 0 0)).run Tryz.prog w = .ok (.bool true) w := fun _ => by kernel_rfl
  go_enter Tryz.func93, Tryz.ntmps93
  go_wp2
  go_ret
  exact ⟨rfl, rfl⟩
set_option maxRecDepth 100000 in
set_option maxHeartbeats 1000000 in
theorem clone_empty (a : Addr) (c : Nat) (w : World) : Calls Tryz.prog 93 #[.slice (some a) 0 c] w fun e w' => ∃ g, e = .returned (.slice (some ⟨g, 0, none⟩) 0 0) ∧ Below w.heap.size w w' := by
  obtain ⟨i0, hi, hz0, hz1, hz2⟩ := info_parts info_u64
  have hne : ∀ (a : Addr) (n c : Nat) (w : World), (binOp .eql 25 (.slice (some a) n c) (.slice none 0 0)).run Tryz.prog w = .ok (.bool false) w := fun _ _ _ _ => by kernel_rfl
  go_enter Tryz.func93, Tryz.ntmps93
  go_wp2_with (at_builtin; refine wpList_append_arg _ rfl _ _ 25 rfl 50 i0 (.int .u64 0) 1 8 under_nat hi hz0 hz1 hz2 rfl (by decide) w.heap.size 0 0 0 [] rfl rfl (fun j u hj => by simp at hj) a 0 c [] rfl rfl (fun j u hj => by simp at hj) (fun u hu => by simp at hu) (fun _ j hj => by simp at hj) (by unfold maxLen; omega) (by omega) (fun _ => ?_) (fun h => by omega))
  clear hne
  go_wp2
  go_ret
  exact ⟨_, rfl, (Below.refl _ _).alloc (Nat.le_refl _) _⟩
theorem clone_any {A : Option Addr} {xs : List Nat} (c : Nat) (w : World) (h : RdU w w.heap.size A xs) (hn : xs.length ≤ 274877906944) (hA : A = none → c = 0) :
    Calls Tryz.prog 93 #[.slice A xs.length c] w fun e w' => ∃ A' c', e = .returned (.slice A' xs.length c') ∧ GotW w' w.heap.size A' c' xs ∧ Below w.heap.size w w' := by
  rcases Nat.eq_zero_or_pos xs.length with h0 | h0
  · obtain rfl := List.eq_nil_of_length_eq_zero h0
    cases A with
    | none =>
      rw [hA rfl]
      exact (clone_none w).mono fun e w' ⟨he, hw⟩ => ⟨none, 0, he, ⟨.nil, Nat.le_refl _, by omega, .inl rfl⟩, hw ▸ Below.refl _ _⟩
    | some a => exact (clone_empty a c w).mono fun e w' ⟨g, he, hw⟩ => ⟨_, 0, he, ⟨.nil, Nat.le_refl _, by omega, .inl rfl⟩, hw⟩
  · obtain ⟨b, off, rfl, _⟩ := h.at h0
    refine (clone_some c w h hn h0).mono fun e w' ⟨v, he, ho, hb⟩ => ?_
    obtain ⟨g, c', rfl, hg⟩ := gotW_of_own ho h0
    exact ⟨_, c', he, hg, hb⟩
/-- The call returns a slice of its own that reads as the number N; of its room nothing is known. -/
def RetW (w : World) (N : Nat) (e : Ending) (w' : World) : Prop :=
  ∃ A c zs, e = .returned (.slice A (zs : List Nat).length c) ∧ GotW w' w.heap.size A c zs ∧ Nrm zs N ∧ Below w.heap.size w w'
set_option maxHeartbeats 1000000 in
theorem norm_any {A : Option Addr} {xs : List Nat} (c : Nat) (w : World) (h : RdU w w.heap.size A xs) (hc : xs.length ≤ c) (hn : xs.length ≤ 274877906944) (d : Dig 18446744073709551616 xs) :
    Calls Tryz.prog 75 #[.slice A xs.length c] w (RetW w (vl 18446744073709551616 xs)) := by
  go_enter Tryz.func75, Tryz.ntmps75
  go_wp2_with fail
  refine (trim_nat _ _ h hc (by omega) d).mono ?_
  rintro e w1 ⟨⟨zs1, rfl, r1, t1, e1, v1, l1⟩, rfl⟩
  go_wp2_with fail
  refine (clone_any zs1.length w r1 (by omega) (fun e => ?_)).mono ?_
  · subst e
    rcases r1.place with h0 | ⟨_, _, h0, _⟩
    · rw [h0]; rfl
    · cases h0
  rintro e w1 ⟨A', c', rfl, hg, hb⟩
  go_wp2
  go_ret
  exact ⟨A', c', zs1, rfl, hg, ⟨e1, t1, v1⟩, hb⟩
set_option maxHeartbeats 1000000 in
theorem of_any (n : Nat) (hn : n < 18446744073709551616) (w : World) : Calls Tryz.prog 53 #[.int .u64 n] w (RetW w n) := by
  have hB := BlkU.lit w 50 [n] #[.int .u64 n] rfl
  have hrd := (hB.rd 0 1 (by simp)).more (B' := (w.alloc (.cells #[.int .u64 (n : Int)] 50)).heap.size) (by simp)
  have hd : Dig 18446744073709551616 [n] := fun x hx => by simp at hx; omega
  have hnorm := norm_any 1 _ hrd (by simp) (by simp) hd
  have hv : vl 18446744073709551616 [n] = n := by simp [vl]
  simp only [List.drop_zero, List.take_succ_cons, List.take_zero] at hnorm
  rw [hv] at hnorm
  replace hnorm := Lib.hid hnorm
  clear hrd hB hd hv
  go_enter Tryz.func53, Tryz.ntmps53
  go_wp2_with fail
  refine hnorm.out.mono ?_
  rintro e w1 ⟨A', c', zs, rfl, hg, hz, hb⟩
  go_wp2
  go_ret
  exact ⟨A', c', zs, rfl, gotW_base hg (by simp), hz, chain ((Below.refl _ _).alloc (Nat.le_refl _) _) hb⟩
end Go.Proofs.YtabgfdingdmnlaaGreatDoor
namespace Go.Cal
/-- At the head of a round: j digits are left; the rows L (what is left) and Q (the digits). -/
structure DivRel (b : Nat) (ys : List Nat) (m q U : Nat) (L Q : List Nat) (j : Nat) : Prop where
  len : L.length = m + 1
  qlen : Q.length = q
  dig : Dig b L
  qdig : Dig b Q
  low : vl b (L.drop j) < vl b ys
  val : vl b L + vl b ys * (b ^ j * vl b (Q.drop j)) = U
theorem DivRel.win {b : Nat} {ys : List Nat} {m q U : Nat} {L Q : List Nat} {j : Nat} (h : DivRel b ys m q U L Q (j + 1)) (dy : Dig b ys) (hj : j + ys.length + 1 ≤ m + 1) :
    vl b (L.drop (j + ys.length + 1)) = 0 ∧ vl b (L.drop j) = vl b ((L.drop j).take (ys.length + 1)) ∧ vl b ((L.drop j).take (ys.length + 1)) < vl b ys * b := by
  have hlen := h.len
  have h1 := h.low
  have h2 := vl_lt dy
  have h3 := vl_split (b := b) (L.drop (j + 1)) ys.length (by simp; omega)
  rw [List.drop_drop, show j + 1 + ys.length = j + ys.length + 1 by omega] at h3
  have hz : vl b (L.drop (j + ys.length + 1)) = 0 := by
    rcases Nat.eq_zero_or_pos (vl b (L.drop (j + ys.length + 1))) with h0 | h0
    · exact h0
    · have := Nat.mul_le_mul_left (b ^ ys.length) h0
      omega
  have h4 := vl_split (b := b) (L.drop j) (ys.length + 1) (by simp; omega)
  rw [List.drop_drop, show j + (ys.length + 1) = j + ys.length + 1 by omega, hz, Nat.mul_zero, Nat.add_zero] at h4
  refine ⟨hz, h4, ?_⟩
  rw [← h4, vl_drop L j (by omega)]
  have h5 : L.getD j 0 < b := by
    rcases Nat.eq_zero_or_pos b with h0 | h0
    · have hm : L.getD j 0 ∈ L := by
        rw [List.getD_eq_getElem?_getD, List.getElem?_eq_getElem (by omega)]
        exact List.getElem_mem _
      exact h.dig _ hm
    · exact dig_getD h0 h.dig j
  have h6 : b * (vl b (L.drop (j + 1)) + 1) ≤ b * vl b ys := Nat.mul_le_mul_left _ h1
  rw [Nat.mul_comm (vl b ys)]
  rw [Nat.mul_add] at h6
  omega
theorem DivRel.step {b : Nat} {ys : List Nat} {m q U : Nat} {L L' Q : List Nat} {j : Nat} (h : DivRel b ys m q U L Q (j + 1)) (dy : Dig b ys) (hj : j + ys.length + 1 ≤ m + 1) (hq : j < q) (hV : 0 < vl b ys)
    (hW : WinEq L L' j ys.length) (dL : Dig b L') (hs : vl b ((L'.drop j).take (ys.length + 1)) = vl b ((L.drop j).take (ys.length + 1)) % vl b ys) :
    DivRel b ys m q U L' (Q.set j (vl b ((L.drop j).take (ys.length + 1)) / vl b ys)) j := by
  obtain ⟨hz, hX, hlt⟩ := h.win dy hj
  have hlen := h.len
  have hlen' := hW.len
  have hql := h.qlen
  have h4 := vl_split (b := b) (L'.drop j) (ys.length + 1) (by simp; omega)
  rw [List.drop_drop, show j + (ys.length + 1) = j + ys.length + 1 by omega, hW.high, hz, Nat.mul_zero, Nat.add_zero, hs] at h4
  have hd : vl b ((L.drop j).take (ys.length + 1)) / vl b ys < b := by
    rw [Nat.div_lt_iff_lt_mul hV, Nat.mul_comm]; exact hlt
  refine ⟨by omega, by rw [List.length_set, hql], dL, dig_set h.qdig _ hd, by rw [h4]; exact Nat.mod_lt _ hV, ?_⟩
  have h5 := vl_split (b := b) L j (by omega)
  have h6 := vl_split (b := b) L' j (by omega)
  rw [hW.low, h4] at h6
  have h7 := h.val
  rw [vl_drop _ j (by rw [List.length_set]; omega), getD_set_eq (by omega), List.drop_set_of_lt (by omega), h6]
  rw [h5, hX] at h7
  obtain ⟨X, hXe⟩ : ∃ X, vl b ((L.drop j).take (ys.length + 1)) = X := ⟨_, rfl⟩
  obtain ⟨V, hVe⟩ : ∃ V, vl b ys = V := ⟨_, rfl⟩
  obtain ⟨T, hT⟩ : ∃ T, vl b (Q.drop (j + 1)) = T := ⟨_, rfl⟩
  rw [hXe, hVe, hT] at h7 ⊢
  rw [← h7]
  have h8 : V * (b ^ j * (X / V + b * T)) = b ^ j * (V * (X / V)) + V * (b ^ (j + 1) * T) := by
    rw [Nat.pow_succ, Nat.mul_add, Nat.mul_add, Nat.mul_left_comm, Nat.mul_assoc (b ^ j)]
  have h9 : b ^ j * X = b ^ j * (X % V) + b ^ j * (V * (X / V)) := by
    rw [← Nat.mul_add, Nat.mod_add_div]
  rw [h8, h9]
  omega
theorem DivRel.done {b : Nat} {ys : List Nat} {m q U : Nat} {L Q : List Nat} (h : DivRel b ys m q U L Q 0) : vl b Q = U / vl b ys ∧ vl b L = U % vl b ys := by
  have h1 := h.val
  have h2 := h.low
  rw [Nat.pow_zero, Nat.one_mul, List.drop_zero] at h1
  rw [List.drop_zero] at h2
  have hV : 0 < vl b ys := by omega
  rw [← h1, Nat.add_comm, Nat.mul_add_div hV, Nat.mul_add_mod, Nat.div_eq_of_lt h2, Nat.mod_eq_of_lt h2]
  exact ⟨rfl, rfl⟩
theorem DivRel.start {b : Nat} (hb : 0 < b) {ys zs : List Nat} {q : Nat} (dz : Dig b zs) (ty : Top ys) (h0 : ys ≠ []) (hq : q + ys.length = zs.length + 1) :
    DivRel b ys zs.length q (vl b zs) (zs ++ [0]) (List.replicate q 0) q := by
  have hp := vl_pos (b := b) ty h0
  have hl : 0 < ys.length := List.length_pos_iff.2 h0
  have hv : vl b (zs ++ [0]) = vl b zs := by rw [vl_append]; simp [vl]
  refine ⟨by simp, by simp, dig_append dz (fun x hx => by simp at hx; omega), dig_zeros hb _, ?_, by rw [hv]; simp [vl]⟩
  rw [List.drop_append_of_le_length (by omega), vl_append]
  have h1 := vl_lt (dig_drop dz q)
  rw [List.length_drop, show zs.length - q = ys.length - 1 by omega] at h1
  simp only [vl, Nat.mul_zero, Nat.add_zero]
  omega
/-- What was shifted on both sides. -/
theorem shifted_div (X Y s : Nat) : X * 2 ^ s / (Y * 2 ^ s) = X / Y ∧ X * 2 ^ s % (Y * 2 ^ s) / 2 ^ s = X % Y := by
  have hp : 0 < 2 ^ s := Nat.two_pow_pos s
  refine ⟨Nat.mul_div_mul_right _ _ hp, ?_⟩
  rw [Nat.mul_mod_mul_right, Nat.mul_div_cancel _ hp]
end Go.Cal
namespace Go.Proofs.YtabgfdingdmnlaaGreatDoor
open Go.RowKit Go.Cal
/-- What Div tells. -/
def RetDiv (w : World) (X Y : Nat) (e : Ending) (w' : World) : Prop :=
  if Y = 0 then e = .returned (.tuple #[.slice none 0 0, .slice none 0 0, .bool false]) ∧ Below w.heap.size w w'
  else ∃ A c zs A' c' rs, e = .returned (.tuple #[.slice A (zs : List Nat).length c, .slice A' (rs : List Nat).length c', .bool true]) ∧ GotW w' w.heap.size A c zs ∧ Nrm zs (X / Y) ∧ GotW w' w.heap.size A' c' rs ∧ Nrm rs (X % Y) ∧ Below w.heap.size w w'
theorem RetDiv.none {w w' : World} {X Y : Nat} (h : Y = 0) (hb : Below w.heap.size w w') : RetDiv w X Y (.returned (.tuple #[.slice none 0 0, .slice none 0 0, .bool false])) w' := by
  unfold RetDiv
  rw [if_pos h]
  exact ⟨rfl, hb⟩
theorem RetDiv.some {w w' : World} {X Y : Nat} {A A' : Option Addr} {c c' : Nat} {zs rs : List Nat} (h : 0 < Y) (g : GotW w' w.heap.size A c zs) (n : Nrm zs (X / Y)) (g' : GotW w' w.heap.size A' c' rs) (n' : Nrm rs (X % Y)) (hb : Below w.heap.size w w') :
    RetDiv w X Y (.returned (.tuple #[.slice A zs.length c, .slice A' rs.length c', .bool true])) w' := by
  unfold RetDiv
  rw [if_neg (by omega)]
  exact ⟨A, c, zs, A', c', rs, rfl, g, n, g', n', hb⟩
theorem gotU_toW {w : World} {base : Nat} {A : Option Addr} {c : Nat} {zs : List Nat} (h : GotU w base A c zs) : GotW w base A c zs :=
  ⟨h.rd, h.cap, by have := h.small; unfold maxLen; omega, h.own⟩
theorem GotW.below {w w' : World} {base : Nat} {A : Option Addr} {c : Nat} {zs : List Nat} (h : GotW w base A c zs) (hb : Below w.heap.size w w') : GotW w' base A c zs := by
  refine ⟨(h.rd.below hb).more hb.size, h.cap, h.small, h.own.imp id ?_⟩
  rintro ⟨b, off, rfl, h1, h2⟩
  refine ⟨b, off, rfl, h1, fun i hi => ?_⟩
  obtain ⟨b', off', e, hlt, _⟩ := h.rd.at hi
  injection e with e
  injection e with e1 e2
  subst e1; subst e2
  rw [hb.frozen (p := ⟨b, off + i, none⟩) hlt]
  exact h2 i hi
theorem GotW.nil (w : World) (base : Nat) : GotW w base none 0 [] := ⟨.nil, Nat.le_refl _, by unfold maxLen; omega, .inl rfl⟩
theorem nrm_len_le {xs ys : List Nat} {M N : Nat} (h : Nrm xs M) (k : Nrm ys N) (hMN : M ≤ N) : xs.length ≤ ys.length := by
  rcases Nat.lt_or_ge ys.length xs.length with hlt | hge
  · have := vl_lt_of_length (b := 18446744073709551616) (by omega) k.dig h.top hlt
    rw [h.val, k.val] at this
    omega
  · exact hge
theorem len_pow {xs : List Nat} {N s k : Nat} (h : Nrm xs (N * 2 ^ s)) (hN : N < 18446744073709551616 ^ k) (hs : s ≤ 64) : xs.length ≤ k + 1 := by
  refine h.length_le ?_
  rw [Nat.pow_succ]
  have h1 : 2 ^ s ≤ 18446744073709551616 := Nat.pow_le_pow_right (n := 2) (i := s) (j := 64) (by omega) hs
  have h2 : N * 2 ^ s ≤ N * 18446744073709551616 := Nat.mul_le_mul_left _ h1
  have h3 : N * 18446744073709551616 < 18446744073709551616 ^ k * 18446744073709551616 := Nat.mul_lt_mul_of_pos_right hN (by omega)
  omega
/-- What was made, whole, without its noughts; the world is as it was. -/
theorem trim_kept {wr : World} {g n N base : Nat} {L : List Nat} (c : Nat) (hB : BlkU wr g 50 L) (hg : base ≤ g) (hl : L.length = n) (hc : n ≤ c) (hn : n ≤ 1099511627776) (hd : Dig 18446744073709551616 L) (hv : vl 18446744073709551616 L = N) :
    Calls Tryz.prog 18 #[.slice (some ⟨g, 0, none⟩) n c] wr fun e w' => (∃ A c zs, e = .returned (.slice A (zs : List Nat).length c) ∧ GotU wr base A c zs ∧ Nrm zs N) ∧ wr = w' := by
  subst hl
  have hrd := hB.rd 0 L.length (by omega)
  simp at hrd
  refine (trim_any c wr hrd hc (by omega)).mono ?_
  rintro e w1 ⟨⟨zs, rfl, ⟨k, rfl⟩, ht, h4⟩, rfl⟩
  have hk := hB.got base (min k L.length) hg (by omega) (by omega)
  have e1 : L.take (min k L.length) = L.take k := by
    rw [← List.take_take, List.take_of_length_le (Nat.le_refl L.length)]
  rw [e1] at hk
  refine ⟨⟨_, _, L.take k, rfl, ?_, ⟨dig_take hd k, ht, (h4 _).trans hv⟩⟩, rfl⟩
  rw [List.length_take]
  exact hk
theorem rd_cells {w : World} {B b off : Nat} {xs : List Nat} (h : RdU w B (some ⟨b, off, none⟩) xs) (hB : B ≤ w.heap.size) (o : Obj) (j : Nat) (u : Value) (hj : (lU xs)[j]? = some u) : (w.alloc o).cell? ((⟨b, off, none⟩ : Addr).add j) = some u := by
  rcases Nat.lt_or_ge j xs.length with hlt | hge
  · rw [lU_get xs j hlt] at hj
    injection hj with hj
    subst hj
    rw [Addr.add_lit]
    obtain ⟨b', o', e, hb', hc⟩ := h.at hlt
    injection e with e
    injection e with e1 e2
    subst e1; subst e2
    rw [World.cell?_alloc_past _ _ _ (Nat.lt_of_lt_of_le hb' hB)]
    exact hc j hlt
  · rw [List.getElem?_eq_none (by rw [lU_len]; exact hge)] at hj
    cases hj
end Go.Proofs.YtabgfdingdmnlaaGreatDoor
namespace Go.Proofs.YtabgfdingdmnlaaGreatDoor
open Go.RowKit Go.Cal
/-- How many bits. -/
def blen (N : Nat) : Nat := if N = 0 then 0 else Nat.log2 N + 1
theorem blen_zero : blen 0 = 0 := rfl
theorem blen_of {N k : Nat} (h1 : 2 ^ k ≤ N) (h2 : N < 2 ^ (k + 1)) : blen N = k + 1 := by
  have hp := Nat.two_pow_pos k
  have h0 : N ≠ 0 := by omega
  unfold blen
  rw [if_neg h0]
  have h3 := (Nat.le_log2 h0).2 h1
  have h4 := (Nat.log2_lt h0).2 h2
  omega
theorem blen_lt (N : Nat) : N < 2 ^ blen N := by
  unfold blen
  split
  · next h => subst h; decide
  · exact Nat.lt_log2_self
theorem blen_le {N k : Nat} (h : N < 2 ^ k) : blen N ≤ k := by
  unfold blen
  split
  · omega
  · next h0 => have := (Nat.log2_lt h0).2 h; omega
theorem vl_at {b : Nat} (hb : 0 < b) : ∀ {xs : List Nat}, Dig b xs → ∀ i, vl b xs / b ^ i % b = xs.getD i 0
  | [], _, i => by simp [vl]
  | x :: xs, h, 0 => by
    have hx : x < b := h x (by simp)
    simp [vl, Nat.add_mul_mod_self_left, Nat.mod_eq_of_lt hx]
  | x :: xs, h, i + 1 => by
    have hx : x < b := h x (by simp)
    have ih := vl_at hb (xs := xs) (fun y hy => h y (by simp [hy])) i
    rw [Nat.pow_succ, Nat.mul_comm (b ^ i) b, ← Nat.div_div_eq_div_mul]
    simp only [vl]
    rw [Nat.add_mul_div_left _ _ hb, Nat.div_eq_of_lt hx, Nat.zero_add, ih]
    simp
theorem vl_bit {xs : List Nat} (d : Dig 18446744073709551616 xs) (i : Nat) : (xs.getD (i / 64) 0).testBit (i % 64) = (vl 18446744073709551616 xs).testBit i := by
  rw [← vl_at (by omega) d, show 18446744073709551616 = 2 ^ 64 from rfl, ← Nat.pow_mul, Nat.testBit_mod_two_pow]
  rw [decide_eq_true (Nat.mod_lt i (by omega)), Bool.true_and, ← Nat.shiftRight_eq_div_pow, Nat.testBit_shiftRight]
  congr 1
  omega
theorem vl_blen {xs : List Nat} (d : Dig 18446744073709551616 xs) (t : Top xs) (h : 0 < xs.length) :
    blen (vl 18446744073709551616 xs) = 64 * (xs.length - 1) + Lib.bitLen (xs.getD (xs.length - 1) 0) := by
  obtain ⟨m, hm⟩ : ∃ m, xs.length = m + 1 := ⟨xs.length - 1, by omega⟩
  have h0 : xs.getD m 0 ≠ 0 := by
    have h1 := t (by intro e; subst e; simp at hm)
    rw [List.getLast_eq_getElem] at h1
    rw [List.getD_eq_getElem?_getD, List.getElem?_eq_getElem (by omega)]
    simpa [hm] using h1
  have hb := dig_getD (b := 18446744073709551616) (by omega) d m
  rw [hm, Nat.add_sub_cancel]
  generalize hx : xs.getD m 0 = x at h0 hb ⊢
  obtain ⟨s1, s2⟩ := bitLen_spec x x (Nat.le_refl _) hb
  obtain ⟨s2, s3⟩ := s2 h0
  obtain ⟨l, hl⟩ : ∃ l, Lib.bitLen x = l + 1 := ⟨Lib.bitLen x - 1, by omega⟩
  rw [hl] at s1 s2 ⊢
  have hv : vl 18446744073709551616 xs = vl 18446744073709551616 (xs.take m) + 18446744073709551616 ^ m * x := by
    rw [← hx, ← vl_getD, vl_take_all _ _ (by omega)]
  have hlo := vl_lt (dig_take d m)
  rw [List.length_take, Nat.min_eq_left (by omega)] at hlo
  have hp : 18446744073709551616 ^ m = 2 ^ (64 * m) := by rw [show 18446744073709551616 = 2 ^ 64 from rfl, ← Nat.pow_mul]
  rw [hp] at hv hlo
  refine blen_of (k := 64 * m + l) ?_ ?_
  · rw [Nat.pow_add, hv]
    have := Nat.mul_le_mul_left (2 ^ (64 * m)) s2
    rw [Nat.add_sub_cancel] at this
    omega
  · rw [Nat.add_assoc, Nat.pow_add, hv]
    have := Nat.mul_le_mul_left (2 ^ (64 * m)) (show x + 1 ≤ 2 ^ (l + 1) from s1)
    rw [Nat.mul_add] at this
    omega
theorem bit_val (x r : Nat) (hx : x < 18446744073709551616) : ((bits .and .u64 ((x : Int) / 2 ^ r) 1 == 1) : Bool) = x.testBit r := by
  have e1 : (x : Int) / 2 ^ r = ((x / 2 ^ r : Nat) : Int) := by push_cast; rfl
  have hlt : x / 2 ^ r < 18446744073709551616 := Nat.lt_of_le_of_lt (Nat.div_le_self _ _) hx
  have hm := Nat.mod_lt (x / 2 ^ r) (show 0 < 2 by omega)
  rw [e1, show (1 : Int) = ((1 : Nat) : Int) from rfl, u64_and_nat _ _ hlt (by omega), Nat.and_one_is_mod, Nat.testBit_eq_decide_div_mod_eq, Bool.eq_iff_iff]
  simp
  omega
end Go.Proofs.YtabgfdingdmnlaaGreatDoor
