/- The nat layer, first part: a word at a place; what is left without noughts. Conditions: lengths below 2^40. -/
import Derived.Test.YtjhdkdfiadlmcaaGreatDoorRows
import Derived.Test.YtjhdkdfiadlmcaaGreatDoorVec
namespace Go.Proofs.YtjhdkdfiadlmcaaGreatDoor
open Go.RowKit Go.Cal

theorem at_out (A : Option Addr) (n c : Nat) (i : Int) (w : World) (h : i < 0 ∨ (n : Int) ≤ i) :
    Calls Tryz.prog 29 #[.slice A n c, .int .i64 i] w fun e w' => e = .returned (.int .u64 0) ∧ w = w' := by
  rcases h with h | h
  · go_enter Tryz.func29, Tryz.ntmps29
    go_wp2
    go_ret
    exact ⟨rfl, rfl⟩
  · have h0 : ¬ i < 0 := by omega
    go_enter Tryz.func29, Tryz.ntmps29
    go_wp2
    go_ret
    exact ⟨rfl, rfl⟩
theorem at_in (b off n c : Nat) (i : Nat) (x : Int) (w : World) (hi : i < n) (hc : w.cell? ⟨b, off + i, none⟩ = some (.int .u64 x)) :
    Calls Tryz.prog 29 #[.slice (some ⟨b, off, none⟩) n c, .int .i64 i] w fun e w' => e = .returned (.int .u64 x) ∧ w = w' := by
  have h0 : ¬ (i : Int) < 0 := by omega
  have h1 : (i : Int) < (n : Int) := by omega
  go_enter Tryz.func29, Tryz.ntmps29
  go_wp2
  go_ret
  exact ⟨rfl, rfl⟩
/-- A word at a place; 0 behind the last one. -/
theorem at_any {B : Nat} {A : Option Addr} {xs : List Nat} (c : Nat) (i : Nat) (w : World) (h : RdU w B A xs) :
    Calls Tryz.prog 29 #[.slice A xs.length c, .int .i64 i] w fun e w' => e = .returned (.int .u64 (xs.getD i 0 : Nat)) ∧ w = w' := by
  by_cases hi : i < xs.length
  · obtain ⟨b, off, rfl, hb, hc⟩ := h.at hi
    exact at_in b off _ c i _ w hi (hc i hi)
  · rw [show xs.getD i 0 = 0 by simp [List.getD_eq_getElem?_getD, List.getElem?_eq_none (Nat.le_of_not_lt hi)]]
    exact at_out A _ c i w (.inr (by omega))
/-- What trim tells: the words without the noughts at the end, at the same place. -/
def TrimR (A : Option Addr) (xs : List Nat) (e : Ending) : Prop :=
  ∃ zs : List Nat, e = .returned (.slice A zs.length zs.length) ∧ (∃ n, zs = xs.take n) ∧ Top zs ∧ ∀ b, vl b zs = vl b xs
theorem TrimR.of {A : Option Addr} {xs : List Nat} {n : Nat} (h1 : n ≤ xs.length) (h2 : ∀ j, n ≤ j → j < xs.length → xs.getD j 0 = 0) (h3 : n = 0 ∨ xs.getD (n - 1) 0 ≠ 0) :
    TrimR A xs (.returned (.slice A n n)) := by
  refine ⟨xs.take n, ?_, ⟨n, rfl⟩, top_take h1 h3, fun b => vl_trim h2⟩
  rw [List.length_take, Nat.min_eq_left h1]
set_option maxHeartbeats 400000 in
theorem trim_any {B : Nat} {A : Option Addr} {xs : List Nat} (c : Nat) (w : World) (h : RdU w B A xs) (hc : xs.length ≤ c) (hn : xs.length ≤ 1099511627776) :
    Calls Tryz.prog 28 #[.slice A xs.length c] w fun e w' => TrimR A xs e ∧ w = w' := by
  go_enter Tryz.func28, Tryz.ntmps28
  go_wp2
  go_loop [3] (fun i => ∃ n : Nat, n ≤ xs.length ∧ i = .int .i64 n ∧ (∀ j, n ≤ j → j < xs.length → xs.getD j 0 = 0)) (fun i => (intOf i).toNat)
  case atStart => exact ⟨xs.length, by omega, rfl, fun j h1 h2 => by omega⟩
  case round =>
    obtain ⟨n, hn1, rfl, hz⟩ := hrel
    replace hz := Lib.hid hz
    by_cases h0 : n = 0
    · subst h0
      go_wp2
      go_ret
      exact ⟨.of (Nat.zero_le _) hz.out (.inl rfl), rfl⟩
    · obtain ⟨m, rfl⟩ : ∃ m, n = m + 1 := ⟨n - 1, by omega⟩
      obtain ⟨b, off, rfl, hb, hcell⟩ := h.at (i := m) (by omega)
      have hcm := hcell m (by omega)
      clear hcell h
      by_cases hx : xs.getD m 0 = 0
      · rw [hx] at hcm
        replace hx := Lib.hid hx
        go_wp2
        refine ⟨⟨m, by omega, rfl, fun j h1 h2 => ?_⟩, by simp [intOf]⟩
        rcases Nat.eq_or_lt_of_le h1 with rfl | h1
        · exact hx.out
        · exact hz.out j h1 h2
      · have hx0 : (((xs.getD m 0 : Nat) : Int) == 0) = false := by simpa using hx
        replace hx := Lib.hid hx
        generalize hxx : xs.getD m 0 = x at hcm hx0
        replace hxx := Lib.hid hxx
        go_wp2
        go_ret
        exact ⟨.of hn1 hz.out (.inr hx.out), rfl⟩
/-- What trim tells of words that are read. -/
def TrimN (w : World) (B : Nat) (A : Option Addr) (xs : List Nat) (e : Ending) : Prop :=
  ∃ zs : List Nat, e = .returned (.slice A zs.length zs.length) ∧ RdU w B A zs ∧ Top zs ∧ Dig 18446744073709551616 zs ∧ vl 18446744073709551616 zs = vl 18446744073709551616 xs ∧ zs.length ≤ xs.length
theorem trim_nat {B : Nat} {A : Option Addr} {xs : List Nat} (c : Nat) (w : World) (h : RdU w B A xs) (hc : xs.length ≤ c) (hn : xs.length ≤ 1099511627776) (hd : Dig 18446744073709551616 xs) :
    Calls Tryz.prog 28 #[.slice A xs.length c] w fun e w' => TrimN w B A xs e ∧ w = w' :=
  (trim_any c w h hc hn).mono fun _ _ ⟨⟨zs, h1, ⟨n, h2⟩, h3, h4⟩, hw⟩ => ⟨⟨zs, h1, h2 ▸ h.take n, h3, h2 ▸ dig_take hd n, h4 _, by rw [h2, List.length_take]; omega⟩, hw⟩
end Go.Proofs.YtjhdkdfiadlmcaaGreatDoor
