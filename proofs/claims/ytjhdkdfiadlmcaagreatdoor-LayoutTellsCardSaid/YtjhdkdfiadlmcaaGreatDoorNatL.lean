/- The nat layer: Div. Conditions: lengths below 2^36. -/
import Derived.Test.YtjhdkdfiadlmcaaGreatDoorNatK
import Derived.Test.YtjhdkdfiadlmcaaGreatDoorDivL
namespace Go.Proofs.YtjhdkdfiadlmcaaGreatDoor
open Go.RowKit Go.Cal
/-- What Div tells. -/
def RetDiv (w : World) (X Y : Nat) (e : Ending) (w' : World) : Prop :=
  if Y = 0 then e = .returned (.tuple #[.slice none 0 0, .slice none 0 0, .bool false]) ∧ Below w.heap.size w w'
  else ∃ A c zs A' c' rs, e = .returned (.tuple #[.slice A (zs : List Nat).length c, .slice A' (rs : List Nat).length c', .bool true]) ∧ GotW w' w.heap.size A c zs ∧ Nrm zs (X / Y) ∧ GotW w' w.heap.size A' c' rs ∧ Nrm rs (X % Y) ∧ Below w.heap.size w w'
theorem RetDiv.none {w w' : World} {X Y : Nat} (h : Y = 0) (hb : Below w.heap.size w w') : RetDiv w X Y (.returned (.tuple #[.slice none 0 0, .slice none 0 0, .bool false])) w' := by
  unfold RetDiv
  rw [if_pos h]
  exact ⟨rfl, hb⟩
theorem RetDiv.some {w w' : World} {X Y : Nat} {A A' : Option Addr} {c c' : Nat} {zs rs : List Nat} (h : 0 < Y) (g : GotW w' w.heap.size A c zs) (n : Nrm zs (X / Y)) (g' : GotW w' w.heap.size A' c' rs) (n' : Nrm rs (X % Y)) (hb : Below w.heap.size w w') :
    RetDiv w X Y (.returned (.tuple #[.slice A zs.length c, .slice A' rs.length c', .bool true])) w' := by
  unfold RetDiv
  rw [if_neg (by omega)]
  exact ⟨A, c, zs, A', c', rs, rfl, g, n, g', n', hb⟩
theorem gotU_toW {w : World} {base : Nat} {A : Option Addr} {c : Nat} {zs : List Nat} (h : GotU w base A c zs) : GotW w base A c zs :=
  ⟨h.rd, h.cap, by have := h.small; unfold maxLen; omega, h.own⟩
theorem GotW.below {w w' : World} {base : Nat} {A : Option Addr} {c : Nat} {zs : List Nat} (h : GotW w base A c zs) (hb : Below w.heap.size w w') : GotW w' base A c zs := by
  refine ⟨(h.rd.below hb).more hb.size, h.cap, h.small, h.own.imp id ?_⟩
  rintro ⟨b, off, rfl, h1, h2⟩
  refine ⟨b, off, rfl, h1, fun i hi => ?_⟩
  obtain ⟨b', off', e, hlt, _⟩ := h.rd.at hi
  injection e with e
  injection e with e1 e2
  subst e1; subst e2
  rw [hb.frozen (p := ⟨b, off + i, none⟩) hlt]
  exact h2 i hi
theorem GotW.nil (w : World) (base : Nat) : GotW w base none 0 [] := ⟨.nil, Nat.le_refl _, by unfold maxLen; omega, .inl rfl⟩
theorem nrm_len_le {xs ys : List Nat} {M N : Nat} (h : Nrm xs M) (k : Nrm ys N) (hMN : M ≤ N) : xs.length ≤ ys.length := by
  rcases Nat.lt_or_ge ys.length xs.length with hlt | hge
  · have := vl_lt_of_length (b := 18446744073709551616) (by omega) k.dig h.top hlt
    rw [h.val, k.val] at this
    omega
  · exact hge
theorem len_pow {xs : List Nat} {N s k : Nat} (h : Nrm xs (N * 2 ^ s)) (hN : N < 18446744073709551616 ^ k) (hs : s ≤ 64) : xs.length ≤ k + 1 := by
  refine h.length_le ?_
  rw [Nat.pow_succ]
  have h1 : 2 ^ s ≤ 18446744073709551616 := Nat.pow_le_pow_right (n := 2) (i := s) (j := 64) (by omega) hs
  have h2 : N * 2 ^ s ≤ N * 18446744073709551616 := Nat.mul_le_mul_left _ h1
  have h3 : N * 18446744073709551616 < 18446744073709551616 ^ k * 18446744073709551616 := Nat.mul_lt_mul_of_pos_right hN (by omega)
  omega
/-- What was made, whole, without its noughts; the world is as it was. -/
theorem trim_kept {wr : World} {g n N base : Nat} {L : List Nat} (c : Nat) (hB : BlkU wr g 36 L) (hg : base ≤ g) (hl : L.length = n) (hc : n ≤ c) (hn : n ≤ 1099511627776) (hd : Dig 18446744073709551616 L) (hv : vl 18446744073709551616 L = N) :
    Calls Tryz.prog 28 #[.slice (some ⟨g, 0, none⟩) n c] wr fun e w' => (∃ A c zs, e = .returned (.slice A (zs : List Nat).length c) ∧ GotU wr base A c zs ∧ Nrm zs N) ∧ wr = w' := by
  subst hl
  have hrd := hB.rd 0 L.length (by omega)
  simp at hrd
  refine (trim_any c wr hrd hc (by omega)).mono ?_
  rintro e w1 ⟨⟨zs, rfl, ⟨k, rfl⟩, ht, h4⟩, rfl⟩
  have hk := hB.got base (min k L.length) hg (by omega) (by omega)
  have e1 : L.take (min k L.length) = L.take k := by
    rw [← List.take_take, List.take_of_length_le (Nat.le_refl L.length)]
  rw [e1] at hk
  refine ⟨⟨_, _, L.take k, rfl, ?_, ⟨dig_take hd k, ht, (h4 _).trans hv⟩⟩, rfl⟩
  rw [List.length_take]
  exact hk
theorem rd_cells {w : World} {B b off : Nat} {xs : List Nat} (h : RdU w B (some ⟨b, off, none⟩) xs) (hB : B ≤ w.heap.size) (o : Obj) (j : Nat) (u : Value) (hj : (lU xs)[j]? = some u) : (w.alloc o).cell? ((⟨b, off, none⟩ : Addr).add j) = some u := by
  rcases Nat.lt_or_ge j xs.length with hlt | hge
  · rw [lU_get xs j hlt] at hj
    injection hj with hj
    subst hj
    rw [Addr.add_lit]
    obtain ⟨b', o', e, hb', hc⟩ := h.at hlt
    injection e with e
    injection e with e1 e2
    subst e1; subst e2
    rw [World.cell?_alloc_past _ _ _ (Nat.lt_of_lt_of_le hb' hB)]
    exact hc j hlt
  · rw [List.getElem?_eq_none (by rw [lU_len]; exact hge)] at hj
    cases hj
end Go.Proofs.YtjhdkdfiadlmcaaGreatDoor
