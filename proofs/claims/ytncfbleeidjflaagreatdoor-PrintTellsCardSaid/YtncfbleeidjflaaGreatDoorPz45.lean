/- The digits of a text, walked: Unlay, that throws and recovers. Conditions: the variables that the library reads. -/
/- The laws of chapter 12: digits that came in, right or not; LayoutBack. Conditions: the variables that the library reads. -/
/- The document's answer for chapter 12, walked: Right, number, Layout. Conditions: none. -/
import Derived.Test.YtncfbleeidjflaaGreatDoorPz28
import Derived.Test.YtncfbleeidjflaaGreatDoorPz19
import Derived.Shelf.Strings.Shaped
import Derived.Defers
import Derived.Deep.RegionHeld3
import Derived.Recover
import Derived.Laws.IdiomStrings
import Derived.Tactics2
import Derived.Deep.LoopGhost
namespace Go.Proofs.YtncfbleeidjflaaGreatDoor
open Go.RowKit Go.Cal
theorem strL_appL (a b : List UInt8) : strL a ++ strL b = strL (a ++ b) := by
  unfold strL
  refine ByteArray.ext ?_
  simp
end Go.Proofs.YtncfbleeidjflaaGreatDoor
namespace Go.Proofs.YtncfbleeidjflaaGreatDoor
open Go.RowKit Go.Cal
/-- Digits that are not right, whatever they are: both calls say so. -/
def NoD (w : World) (D : Value) : Prop := ∀ W, Below w.heap.size w W → (Calls Tryz.prog 139 #[D] W fun e w' => e = .returned (.bool false) ∧ Below W.heap.size W w') ∧ (Calls Tryz.prog 65 #[D] W fun e w' => e = .returned (.string (strL [])) ∧ Below W.heap.size W w')
theorem NoD.below {w W : World} {D : Value} (h : NoD w D) (hb : Below w.heap.size w W) : NoD W D := fun W' hb' => h W' (chain hb hb')
end Go.Proofs.YtncfbleeidjflaaGreatDoor
namespace Go.Proofs.YtncfbleeidjflaaGreatDoor
open Go.RowKit Go.Cal
theorem lcat_l (a b : List UInt8) (B : ByteArray) (hB : B = strL b) (k : Nat) (hk : a.length + b.length ≤ k) : ∃ t, strL a ++ B = strL t ∧ Hid (t = a ++ b) ∧ (strL t).size = t.length ∧ t.length ≤ k :=
  ⟨a ++ b, by rw [hB, strL_appL], Lib.hid rfl, strL_size _, by rw [List.length_append]; exact hk⟩
/-- The document's text of a number, by its half words. -/
theorem rtext_t {w : World} {v : Value} {m N : Nat} (h : IsN w v m N) (hm : m ≤ 16384) : ∀ W, Below w.heap.size w W → Calls Tryz.prog 51 #[v] W fun e w1 => ∃ u, e = .returned u ∧ Below W.heap.size W w1 ∧ (∀ W', Below w1.heap.size w1 W' → Calls Tryz.prog 76 #[u] W' fun e w2 => e = .returned (.string (strL (Lib.decDigits N))) ∧ Below W'.heap.size W' w2) := fun W hb => by
  refine (halves_any W (h.below hb) (by omega)).mono ?_
  rintro e w1 ⟨u, rfl, hu, hb1, _⟩
  exact ⟨u, rfl, hb1, fun W' hb' => digits_any W' (IsH.below hu hb') (by omega)⟩
set_option maxRecDepth 100000 in
set_option maxHeartbeats 1000000 in
theorem rright_t {w : World} {v : Value} {N : Nat} (neg : Bool) (k : Int) (h : IsT w v 128 N) :
    Calls Tryz.prog 75 #[.agg #[.bool neg, v, .int .i64 k]] w fun e w' => e = .returned (.bool (decide (DRight N k))) ∧ Below w.heap.size w w' := by
  have hN := h.isN
  obtain ⟨A, c, zs, rfl, rd, hc, hcm, hl, nr⟩ := h
  have hb0 := (Below.refl w.heap.size w).alloc (Nat.le_refl _) (.cells #[.bool neg, .slice A zs.length c, .int .i64 k] 51)
  by_cases h0 : zs = []
  · subst h0
    obtain rfl : N = 0 := by rw [← nr.val]; rfl
    by_cases hk : k = 0
    · subst hk
      have hd : decide (DRight 0 0) = true := by decide
      rw [hd]
      go_enter Tryz.func75, Tryz.ntmps75
      go_wp2
      go_ret
      exact ⟨rfl, hb0⟩
    · have hd : decide (DRight 0 k) = false := by
        refine decide_eq_false ?_
        rintro (⟨_, h⟩ | ⟨h, _⟩)
        · exact hk h
        · omega
      rw [hd]
      have hk' : (k == 0) = false := by simpa using hk
      go_enter Tryz.func75, Tryz.ntmps75
      go_wp2
      go_ret
      exact ⟨rfl, hb0⟩
  · have hpos := List.length_pos_iff.2 h0
    obtain ⟨b, off, rfl, hbB, hcell⟩ := rd.at (i := 0) hpos
    obtain ⟨n, hn⟩ : ∃ n, zs.length = n := ⟨_, rfl⟩
    have hlast := nr.top h0
    have hx := hcell (n - 1) (by omega)
    have hxv : zs.getD (n - 1) 0 = zs.getLast h0 := by
      rw [List.getLast_eq_getElem, List.getD_eq_getElem?_getD, List.getElem?_eq_getElem (by omega)]
      simp [hn]
    rw [hxv] at hx
    obtain ⟨x, hxx⟩ : ∃ x, zs.getLast h0 = x := ⟨_, rfl⟩
    rw [hxx] at hx hlast
    have hN0 : 0 < N := by
      have := vl_pos (b := 18446744073709551616) nr.top h0
      rw [nr.val] at this
      exact Nat.lt_of_lt_of_le (Nat.pow_pos (by decide)) this
    rw [hn] at hN hc hl hb0 ⊢
    have hx' : (w.alloc (.cells #[.bool neg, .slice (some ⟨b, off, none⟩) n c, .int .i64 k] 51)).cell? ⟨b, off + (n - 1), none⟩ = some (.int .u64 (x : Nat)) := by
      rw [World.cell?_alloc_lt _ _ _ hbB]; exact hx
    have hN' := hN.below hb0
    have hx0 : ((x : Int) == 0) = false := by simpa using hlast
    clear hcell hxv hxx nr rd
    by_cases hk1 : k < -5000
    · have hd : decide (DRight N k) = false := decide_eq_false (by unfold DRight; omega)
      rw [hd]
      go_enter Tryz.func75, Tryz.ntmps75
      go_wp2
      go_ret
      exact ⟨rfl, hb0⟩
    · by_cases hk2 : 5000 < k
      · have hd : decide (DRight N k) = false := decide_eq_false (by unfold DRight; omega)
        rw [hd]
        go_enter Tryz.func75, Tryz.ntmps75
        go_wp2
        go_ret
        exact ⟨rfl, hb0⟩
      · have hi := dright_iff hN0 (k := k) ⟨by omega, by omega⟩
        have htx := rtext_t hN' (by decide) _ (Below.refl _ _)
        obtain ⟨S, hS⟩ : ∃ S, strL (Lib.decDigits N) = S := ⟨_, rfl⟩
        obtain ⟨z, hz⟩ : ∃ z, (Lib.decDigits N).length = z := ⟨_, rfl⟩
        have hsz : S.size = z := by rw [← hS, strL_size, hz]
        have hz0 : 0 < z := by rw [← hz]; exact List.length_pos_iff.2 (dec_ne N)
        have hge : ∀ h : z - 1 < S.size, S[z - 1] = UInt8.ofNat (48 + N % 10) := fun h => by
          subst hS
          rw [strL_get, ← hz]
          exact dec_end
        rw [hS] at htx
        rw [hz] at hi
        replace htx := Lib.hid htx
        replace hS := Lib.hid hS
        replace hz := Lib.hid hz
        by_cases hl2 : z ≤ 2000
        · by_cases h10 : N % 10 = 0
          · have hd : decide (DRight N k) = false := decide_eq_false fun h => (hi.1 h).2 h10
            rw [hd]
            rw [h10] at hge
            go_enter Tryz.func75, Tryz.ntmps75
            go_wp2_with fail
            refine htx.out.mono ?_
            rintro e w0 ⟨u, rfl, hb1, hdg⟩
            replace hdg := Lib.hid (hdg _ (Below.refl _ _))
            replace hb1 := chain hb0 hb1
            go_wp2_with fail
            refine hdg.out.mono ?_
            rintro e w1 ⟨rfl, hb2⟩
            replace hb1 := chain hb1 hb2
            go_wp2
            go_ret
            exact ⟨rfl, hb1⟩
          · have hd : decide (DRight N k) = true := decide_eq_true (hi.2 ⟨hl2, h10⟩)
            rw [hd]
            have hne : ((48 + (N : Int) % 10) % 256 != 48) = true := by
              rw [bne_iff_ne]
              omega
            go_enter Tryz.func75, Tryz.ntmps75
            go_wp2_with fail
            refine htx.out.mono ?_
            rintro e w0 ⟨u, rfl, hb1, hdg⟩
            replace hdg := Lib.hid (hdg _ (Below.refl _ _))
            replace hb1 := chain hb0 hb1
            go_wp2_with fail
            refine hdg.out.mono ?_
            rintro e w1 ⟨rfl, hb2⟩
            replace hb1 := chain hb1 hb2
            go_wp2
            go_ret
            exact ⟨rfl, hb1⟩
        · have hd : decide (DRight N k) = false := decide_eq_false fun h => hl2 (hi.1 h).1
          rw [hd]
          go_enter Tryz.func75, Tryz.ntmps75
          go_wp2_with fail
          refine htx.out.mono ?_
          rintro e w0 ⟨u, rfl, hb1, hdg⟩
          replace hdg := Lib.hid (hdg _ (Below.refl _ _))
          replace hb1 := chain hb0 hb1
          go_wp2_with fail
          refine hdg.out.mono ?_
          rintro e w1 ⟨rfl, hb2⟩
          replace hb1 := chain hb1 hb2
          go_wp2
          go_ret
          exact ⟨rfl, hb1⟩
/-- The document's number. -/
theorem conv_oneL (x : UInt8) (w : World) : (convert 66 9 (.slice (some ⟨w.heap.size, 0, none⟩) 1 1)).run Tryz.prog (w.alloc (.cells #[.int .u8 (x.toNat : Int)] 5)) = .ok (.string (strL [x])) (w.alloc (.cells #[.int .u8 (x.toNat : Int)] 5)) :=
  conv_bytes (l := [x]) 1 (rd_lit w [x] #[.int .u8 (x.toNat : Int)] rfl (0, 0))
set_option maxRecDepth 100000 in
set_option maxHeartbeats 1000000 in
theorem rnum_nat : ∀ (n : Nat) (_ : n ≤ 100000) (w : World), Calls Tryz.prog 77 #[.int .i64 n] w fun e w' => e = .returned (.string (strL (Lib.decDigits n))) ∧ Below w.heap.size w w' := by
  intro n
  induction n using Nat.strongRecOn with
  | ind n ih =>
    intro hn w
    have hn0 : ¬ (n : Int) < 0 := by omega
    obtain ⟨x, hx⟩ : ∃ x : UInt8, UInt8.ofNat (48 + n % 10) = x := ⟨_, rfl⟩
    have hxv : ((x.toNat : Nat) : Int) = 48 + (n : Int) % 10 := by
      rw [← hx, UInt8.toNat_ofNat']
      omega
    have hcv := fun w => conv_oneL x w
    rw [hxv] at hcv
    by_cases h10 : n < 10
    · have hd : Lib.decDigits n = [x] := by rw [dec_small h10, ← hx, Nat.mod_eq_of_lt h10]
      have h10' : (n : Int) < 10 := by omega
      rw [hd]
      clear ih hd hx hxv
      go_enter Tryz.func77, Tryz.ntmps77
      go_wp2
      go_ret
      exact ⟨rfl, (Below.refl _ _).alloc (Nat.le_refl _) _⟩
    · have hd : Lib.decDigits n = Lib.decDigits (n / 10) ++ [x] := by rw [Go.Cal.dec_big h10, ← hx]
      have h10' : ¬ (n : Int) < 10 := by omega
      have hq := fun w => ih (n / 10) (by omega) (by omega) w
      obtain ⟨q, hqe⟩ : ∃ q, n / 10 = q := ⟨_, rfl⟩
      have hq1 : (n : Int) / 10 = (q : Int) := by omega
      have hq2 : (n : Int).tdiv 10 = (q : Int) := by rw [Int.tdiv_eq_ediv_of_nonneg (by omega)]; exact hq1
      rw [hqe] at hq hd
      have hl : (Lib.decDigits q).length ≤ 20 := (padd_dec 20 q (by decide) (by omega)).2
      obtain ⟨S, hS⟩ : ∃ S, Lib.decDigits q = S := ⟨_, rfl⟩
      rw [hS] at hq hd hl
      have hcat : strL S ++ strL [x] = strL (S ++ [x]) := strL_appL S [x]
      have hs1 := strL_size S
      have hs2 : (strL [x]).size = 1 := strL_size [x]
      rw [hd]
      replace hq := Lib.hid hq
      clear ih hd hx hxv hqe hS
      go_enter Tryz.func77, Tryz.ntmps77
      go_wp2_with fail
      refine (hq.out _).mono ?_
      rintro e w1 ⟨rfl, hb⟩
      go_wp2
      go_ret
      exact ⟨rfl, chain ((Below.refl _ _).alloc (Nat.le_refl _) _) hb⟩
set_option maxRecDepth 100000 in
set_option maxHeartbeats 1000000 in
theorem rnum_any (n : Int) (hn : -100000 ≤ n ∧ n ≤ 100000) (w : World) : Calls Tryz.prog 77 #[.int .i64 n] w fun e w' => e = .returned (.string (strL (numT n))) ∧ Below w.heap.size w w' := by
  by_cases h0 : n < 0
  · obtain ⟨m, hm⟩ : ∃ m : Nat, -n = m := ⟨(-n).toNat, by omega⟩
    have hq := rnum_nat m (by omega) w
    have hd : numT n = 45 :: Lib.decDigits m := by unfold numT; rw [if_pos h0, show n.natAbs = m by omega]
    obtain ⟨S, hS⟩ : ∃ S, Lib.decDigits m = S := ⟨_, rfl⟩
    have hl : (Lib.decDigits m).length ≤ 20 := (padd_dec 20 m (by decide) (by omega)).2
    rw [hS] at hq hd hl
    rw [hd]
    have hcat : (⟨#[45]⟩ : ByteArray) ++ strL S = strL (45 :: S) := strL_appL [45] S
    have hs1 := strL_size S
    obtain ⟨hn1, hn2⟩ := hn
    replace hq := Lib.hid hq
    clear hd hS
    go_enter Tryz.func77, Tryz.ntmps77
    go_wp2_with fail
    refine hq.out.mono ?_
    rintro e w1 ⟨rfl, hb⟩
    go_wp2
    go_ret
    exact ⟨rfl, hb⟩
  · obtain ⟨m, rfl⟩ := Int.eq_ofNat_of_zero_le (show 0 ≤ n by omega)
    have hd : numT (m : Int) = Lib.decDigits m := by unfold numT; rw [if_neg h0]; rfl
    rw [hd]
    exact rnum_nat m (by omega) w
end Go.Proofs.YtncfbleeidjflaaGreatDoor
