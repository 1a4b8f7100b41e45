/- The document's half words, first part: without noughts; a half word at a place; order. Conditions: lengths below 2^40. -/
import Derived.Test.YtabgfdingdmnlaaGreatDoorTells11
namespace Go.Proofs.YtabgfdingdmnlaaGreatDoor
open Go.RowKit Go.Cal
theorem under_u64s : Tryz.prog.underlying 24 = some (.slice 50) := by kernel_rfl
/-- Half words of a number, without noughts at the end. -/
structure NrmH (zs : List Nat) (N : Nat) : Prop where
  dig : Dig 4294967296 zs
  top : Top zs
  val : vl 4294967296 zs = N
theorem NrmH.length_le {zs : List Nat} {N k : Nat} (h : NrmH zs N) (hN : N < 4294967296 ^ k) : zs.length ≤ k := by
  rcases Nat.lt_or_ge k zs.length with hlt | hge
  · exfalso
    have h1 := vl_pos (b := 4294967296) h.top (by intro e; subst e; simp at hlt)
    rw [h.val] at h1
    have h2 : 4294967296 ^ k ≤ 4294967296 ^ (zs.length - 1) := Nat.pow_le_pow_right (by omega) (by omega)
    omega
  · exact hge
theorem NrmH.zero : NrmH [] 0 := ⟨fun x hx => by simp at hx, fun h => absurd rfl h, rfl⟩
theorem NrmH.lt {zs : List Nat} {N : Nat} (h : NrmH zs N) : N < 4294967296 ^ zs.length := h.val ▸ vl_lt h.dig
/-- The value reads as the number N in half words. -/
def IsH (w : World) (v : Value) (k N : Nat) : Prop :=
  ∃ A c zs, v = .slice A (zs : List Nat).length c ∧ RdU w w.heap.size A zs ∧ zs.length ≤ c ∧ (c ≤ maxLen ∧ (A = none → c = 0)) ∧ zs.length ≤ k ∧ NrmH zs N
theorem IsH.below {w w' : World} {v : Value} {k N : Nat} (h : IsH w v k N) (hb : Below w.heap.size w w') : IsH w' v k N := by
  obtain ⟨A, c, zs, h1, h2, h3⟩ := h
  exact ⟨A, c, zs, h1, (h2.below hb).more hb.size, h3⟩
theorem IsH.lt {w : World} {v : Value} {k N : Nat} (h : IsH w v k N) : N < 4294967296 ^ k := by
  obtain ⟨A, c, zs, h1, h2, h3, h4, h5, h6⟩ := h
  exact Nat.lt_of_lt_of_le h6.lt (Nat.pow_le_pow_right (by omega) h5)
theorem IsH.fit {w : World} {v : Value} {k k' N : Nat} (h : IsH w v k N) (hk : N < 4294967296 ^ k') : IsH w v k' N := by
  obtain ⟨A, c, zs, h1, h2, h3, h4, h5, h6⟩ := h
  exact ⟨A, c, zs, h1, h2, h3, h4, h6.length_le hk, h6⟩
def pH (v : Value) (k N : Nat) (w : World) : Prop := IsH w v k N
theorem pH_st (v : Value) (k N : Nat) : Stable (pH v k N) := fun _ _ h hb => IsH.below h hb
theorem get_any {B : Nat} {A : Option Addr} {xs : List Nat} (c : Nat) (i : Nat) (w : World) (h : RdU w B A xs) :
    Calls Tryz.prog 76 #[.slice A xs.length c, .int .i64 i] w fun e w' => e = .returned (.int .u64 (xs.getD i 0 : Nat)) ∧ w = w' := by
  by_cases hi : i < xs.length
  · obtain ⟨b, off, rfl, hb, hc⟩ := h.at hi
    have hc0 := hc i hi
    have h1 : (i : Int) < (xs.length : Int) := by omega
    clear hc h
    generalize xs.getD i 0 = x at *
    go_enter Tryz.func76, Tryz.ntmps76
    go_wp2
    go_ret
    exact ⟨rfl, rfl⟩
  · have h1 : ¬ (i : Int) < (xs.length : Int) := by omega
    clear h
    go_enter Tryz.func76, Tryz.ntmps76
    go_wp2
    go_ret
    exact ⟨rfl, rfl⟩
/-- What Trim tells. -/
def TrimH (A : Option Addr) (c : Nat) (xs : List Nat) (e : Ending) : Prop :=
  ∃ zs : List Nat, e = .returned (.slice A zs.length c) ∧ (∃ n, zs = xs.take n) ∧ Top zs ∧ ∀ b, vl b zs = vl b xs
theorem TrimH.of {A : Option Addr} {c : Nat} {xs : List Nat} {n : Nat} (h1 : n ≤ xs.length) (h2 : ∀ j, n ≤ j → j < xs.length → xs.getD j 0 = 0) (h3 : n = 0 ∨ xs.getD (n - 1) 0 ≠ 0) :
    TrimH A c xs (.returned (.slice A n c)) := by
  refine ⟨xs.take n, ?_, ⟨n, rfl⟩, top_take h1 h3, fun b => vl_trim h2⟩
  rw [List.length_take, Nat.min_eq_left h1]
set_option maxHeartbeats 400000 in
theorem rtrim_any {B : Nat} {A : Option Addr} {xs : List Nat} (c : Nat) (w : World) (h : RdU w B A xs) (hc : xs.length ≤ c) (hn : xs.length ≤ 1099511627776) (hA : A = none → c = 0) :
    Calls Tryz.prog 56 #[.slice A xs.length c] w fun e w' => TrimH A c xs e ∧ w = w' := by
  go_enter Tryz.func56, Tryz.ntmps56
  go_wp2
  go_loop [3] (fun i => ∃ n : Nat, n ≤ xs.length ∧ i = .int .i64 n ∧ (∀ j, n ≤ j → j < xs.length → xs.getD j 0 = 0)) (fun i => (intOf i).toNat)
  case atStart => exact ⟨xs.length, by omega, rfl, fun j h1 h2 => by omega⟩
  case round =>
    obtain ⟨n, hn1, rfl, hz⟩ := hrel
    replace hz := Lib.hid hz
    by_cases h0 : n = 0
    · subst h0
      cases A with
      | none =>
        obtain rfl := hA rfl
        go_wp2
        go_ret
        exact ⟨.of (Nat.zero_le _) hz.out (.inl rfl), rfl⟩
      | some a =>
        go_wp2
        go_ret
        exact ⟨.of (Nat.zero_le _) hz.out (.inl rfl), rfl⟩
    · obtain ⟨m, rfl⟩ : ∃ m, n = m + 1 := ⟨n - 1, by omega⟩
      obtain ⟨b, off, rfl, hb, hcell⟩ := h.at (i := m) (by omega)
      have hcm := hcell m (by omega)
      clear hcell h
      by_cases hx : xs.getD m 0 = 0
      · rw [hx] at hcm
        replace hx := Lib.hid hx
        go_wp2
        refine ⟨⟨m, by omega, rfl, fun j h1 h2 => ?_⟩, by simp [intOf]⟩
        rcases Nat.eq_or_lt_of_le h1 with rfl | h1
        · exact hx.out
        · exact hz.out j h1 h2
      · have hx0 : (((xs.getD m 0 : Nat) : Int) == 0) = false := by simpa using hx
        replace hx := Lib.hid hx
        generalize hxx : xs.getD m 0 = x at hcm hx0
        replace hxx := Lib.hid hxx
        go_wp2
        go_ret
        exact ⟨.of hn1 hz.out (.inr hx.out), rfl⟩
/-- Trim of what has no noughts at the end. -/
theorem rtrim_same {B : Nat} {A : Option Addr} {xs : List Nat} {N : Nat} (c : Nat) (w : World) (h : RdU w B A xs) (hc : xs.length ≤ c) (hn : xs.length ≤ 1099511627776) (hA : A = none → c = 0) (hx : NrmH xs N) :
    Calls Tryz.prog 56 #[.slice A xs.length c] w fun e w' => e = .returned (.slice A xs.length c) ∧ w = w' := by
  refine (rtrim_any c w h hc hn hA).mono ?_
  rintro e w' ⟨⟨zs, rfl, ⟨n, rfl⟩, ht, hv⟩, rfl⟩
  have : xs.take n = xs := canon_unique (b := 4294967296) (by omega) (dig_take hx.dig n) hx.dig ht hx.top (hv _)
  rw [this]
  exact ⟨rfl, rfl⟩
end Go.Proofs.YtabgfdingdmnlaaGreatDoor
