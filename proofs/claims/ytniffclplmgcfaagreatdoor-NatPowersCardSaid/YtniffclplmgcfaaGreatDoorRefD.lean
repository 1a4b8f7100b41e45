/- The document's half words, fourth part: products. Conditions: a number's half words are counted. -/
import Derived.Test.YtniffclplmgcfaaGreatDoorRefC
import Derived.Test.YtniffclplmgcfaaGreatDoorRefQ
import Derived.Deep.QuietTactic
import Derived.BigQuiet
namespace Go.Proofs.YtniffclplmgcfaaGreatDoor
open Go.RowKit Go.Cal
/-- The end of a call that hands back what Trim makes of a row that it has made whole. -/
theorem trim_blk {w wr : World} {g n k N : Nat} {L : List Nat} (hB : BlkU wr g 39 L) (hg : w.heap.size ≤ g) (hn : L.length = n) (hb : Below w.heap.size w wr) (hl : n ≤ 1099511627776) (hd : Dig 4294967296 L) (hv : vl 4294967296 L = N) (hk : N < 4294967296 ^ k) :
    Calls Tryz.prog 39 #[.slice (some ⟨g, 0, none⟩) n n] wr (TellsH w k N) := by
  subst hn
  have hr := (hB.rd 0 L.length (by omega)).more hB.lt
  simp only [List.drop_zero, List.take_length] at hr
  refine (rtrim_any L.length wr hr (Nat.le_refl _) hl (fun e => by cases e)).mono ?_
  rintro e w1 ⟨⟨zs, rfl, ⟨m, rfl⟩, ht, hv'⟩, rfl⟩
  have hz : NrmH (L.take m) N := ⟨dig_take hd m, ht, (hv' _).trans hv⟩
  exact ⟨_, rfl, ⟨_, _, L.take m, rfl, hr.take m, by rw [List.length_take]; omega, ⟨by unfold maxLen; omega, fun e => by cases e⟩, hz.length_le hk, hz⟩, hb, fun A' n' c' e a ha => by cases e; cases ha; exact hg⟩
set_option maxRecDepth 100000 in
set_option maxHeartbeats 4000000 in
theorem times_any {v1 v2 : Value} {k1 k2 X Y : Nat} (w : World) (h1 : IsH w v1 k1 X) (h2 : IsH w v2 k2 Y) (b1 : k1 ≤ 1048576) (b2 : k2 ≤ 1048576) : Calls Tryz.prog 16 #[v1, v2] w (TellsH w (k1 + k2) (X * Y)) := by
  have hX := h1.lt
  have hY := h2.lt
  have hk : X * Y < 4294967296 ^ (k1 + k2) := by rw [Nat.pow_add]; exact Nat.mul_lt_mul'' hX hY
  obtain ⟨A1, c1, xs, rfl, r1, hc1, hm1, hl1, hx⟩ := h1
  obtain ⟨A2, c2, ys, rfl, r2, hc2, hm2, hl2, hy⟩ := h2
  have hmk := run_makeU (P := Tryz.prog) 22 39 under_u64s info_u64 (xs.length + ys.length + 1) (by omega)
  rw [Int.natCast_add, Int.natCast_add, Int.natCast_one] at hmk
  replace hk := Lib.hid hk
  clear hX hY
  go_enter Tryz.func16, Tryz.ntmps16
  go_wp2
  clear hmk
  go_loopg [6] xs.length (fun k iv wr => ∃ (i : Nat) (L : List Nat), iv = .int .i64 i ∧ i + k = xs.length ∧ BlkU wr w.heap.size 39 L ∧ Below w.heap.size w wr ∧ TimesRow 4294967296 xs ys L i)
  case atStart => exact ⟨0, _, rfl, by omega, BlkU.made w 39 _, (Below.refl _ _).alloc (Nat.le_refl _) _, .start (by omega) xs ys⟩
  case round =>
    obtain ⟨i, L, rfl, hik, hB, hbw, hR⟩ := hrel
    obtain ⟨g1, rfl⟩ : ∃ g, g = gk := ⟨_, rfl⟩
    by_cases h0 : g1 = 0
    · subst h0
      have hie : i = xs.length := by omega
      subst hie
      have hv : vl 4294967296 L = X * Y := by rw [hR.val, vl_take_all _ _ (Nat.le_refl _), hx.val, hy.val]
      have ht := trim_blk (k := k1 + k2) hB (Nat.le_refl _) hR.len hbw (by omega) hR.dig hv hk.out
      replace ht := Lib.hid ht
      clear hB hv hR hik
      go_wp2_with fail
      refine ht.out.mono ?_
      rintro e w1 ⟨u, rfl, hu, hb⟩
      go_wp2
      go_ret
      exact ⟨u, rfl, hu, hb⟩
    · have hix : i < xs.length := by omega
      have hii : (i : Int) < (xs.length : Int) := by omega
      obtain ⟨x, hxx⟩ : ∃ x, xs.getD i 0 = x := ⟨_, rfl⟩
      have bx : x < 4294967296 := hxx ▸ dig_getD (by omega) hx.dig i
      have hI := hR.into (by omega) x
      replace hxx := Lib.hid hxx
      clear hR
      go_wp2
      go_loopg [7, 8] (2 * (ys.length + 1)) (fun k cv kv wr => ∃ (j c : Nat) (L : List Nat), kv = .int .i64 j ∧ cv = .int .u64 c ∧ k = 2 * (ys.length + 1 - j) + (if c = 0 then 0 else 1) ∧ BlkU wr w.heap.size 39 L ∧ Below w.heap.size w wr ∧ TimesIn 4294967296 xs ys L i x j c)
      case atStart => exact ⟨0, 0, L, rfl, rfl, by simp, hB, hbw, hI⟩
      case round =>
        clear hI hB hbw
        obtain ⟨j, c, L, rfl, rfl, hgk, hB, hbw, hI⟩ := hrel
        have hcar := hI.car
        by_cases hend : ys.length ≤ j ∧ c = 0
        · obtain ⟨e1, rfl⟩ := hend
          have hout := hI.out hxx.out e1
          have n1 : ¬ (j : Int) < (ys.length : Int) := by omega
          replace hgk := Lib.hid hgk
          clear hI
          go_wp2
          go_roundg (g1 - 1)
          case measure => omega
          case rel => exact ⟨i + 1, L, by go_num, by omega, hB, hbw, hout⟩
        · have hjy : j ≤ ys.length := by
            have h1 := hI.kle
            rcases Nat.lt_or_ge ys.length j with h | h
            · exact absurd ⟨by omega, hI.last (by omega)⟩ hend
            · exact h
          have hdis : j < ys.length ∨ (¬ j < ys.length ∧ 0 < c) := by omega
          have hlen := hI.len
          obtain ⟨b, off, rfl, hb, hcx⟩ := (r1.below hbw).at hix
          have hx0 := hcx i hix
          rw [hxx.out] at hx0
          obtain ⟨y, hyy⟩ : ∃ x, ys.getD j 0 = x := ⟨_, rfl⟩
          have by' : y < 4294967296 := hyy ▸ dig_getD (by omega) hy.dig j
          have hg2 := fun n => get_any c2 j (wr.drewN n) ((r2.below hbw).drewN n)
          rw [hyy] at hg2
          obtain ⟨o, hoo⟩ : ∃ o, L.getD (i + j) 0 = o := ⟨_, rfl⟩
          have ho : o < 4294967296 := hoo ▸ dig_getD (by omega) hI.dig _
          have hcell := hB.cell (i + j) (by omega)
          rw [hoo] at hcell
          have hst := hI.step hix hjy bx hyy by' hoo
          obtain ⟨P, hP⟩ : ∃ P, x * y = P := ⟨_, rfl⟩
          have hPb : P ≤ 18446744065119617025 := by
            rw [← hP]
            exact Nat.mul_le_mul (show x ≤ 4294967295 by omega) (show y ≤ 4294967295 by omega)
          obtain ⟨S, hS⟩ : ∃ S, P + o + c = S := ⟨_, rfl⟩
          rw [hP, hS] at hst
          obtain ⟨lo, hlo⟩ : ∃ l, S % 4294967296 = l := ⟨_, rfl⟩
          obtain ⟨c', hc'⟩ : ∃ l, S / 4294967296 = l := ⟨_, rfl⟩
          rw [hlo, hc'] at hst
          have hmul : IntKind.u64.wrap ((x : Int) * (y : Int)) = (P : Int) := by
            rw [wrap_u64, ← Int.natCast_mul, hP]; omega
          obtain ⟨T, hT⟩ : ∃ T, P + o = T := ⟨_, rfl⟩
          have hadd1 : IntKind.u64.wrap ((P : Int) + (o : Int)) = (T : Int) := by rw [wrap_u64]; omega
          have hadd2 : IntKind.u64.wrap ((T : Int) + (c : Int)) = (S : Int) := by rw [wrap_u64]; omega
          have hij : IntKind.i64.wrap ((i : Int) + (j : Int)) = (i : Int) + (j : Int) := by simp [IntKind.wrap, IntKind.bits, IntKind.signed]; omega
          have hijn : ((i : Int) + (j : Int)).toNat = i + j := by omega
          have hij0 : 0 ≤ (i : Int) + (j : Int) := by omega
          have hijl : (i : Int) + (j : Int) < (xs.length : Int) + (ys.length : Int) + 1 := by omega
          have hloi : (S : Int) % 4294967296 = (lo : Int) := by omega
          have hci : (S : Int) / 4294967296 = (c' : Int) := by omega
          have hdec : 2 * (ys.length + 1 - (j + 1)) + (if c' = 0 then 0 else 1) < gk := by rw [hgk]; split <;> split <;> omega
          replace hg2 := Lib.hid hg2
          replace hP := Lib.hid hP
          replace hS := Lib.hid hS
          replace hT := Lib.hid hT
          replace hlo := Lib.hid hlo
          replace hc' := Lib.hid hc'
          replace hyy := Lib.hid hyy
          replace hoo := Lib.hid hoo
          replace hlen := Lib.hid hlen
          replace hgk := Lib.hid hgk
          replace hdec := Lib.hid hdec
          clear hcx hI hend hPb
          rcases hdis with d | ⟨d, d'⟩
          all_goals
            go_wp2_with fail
            go_quiet ((go_at_call 40; exact Calls.quiet_of_same ((hg2.out _).mono fun _ _ ⟨h, h'⟩ => ⟨h, h'.symm⟩)))
            have hB2 : BlkU (wr.drewN nq) w.heap.size 39 L := hB
            have hbw2 : Below w.heap.size w (wr.drewN nq) := hbw.trans (Drawn.below ⟨nq, rfl⟩ _)
            have hcell2 : (wr.drewN nq).cell? ⟨w.heap.size, i + j, none⟩ = some (.int .u64 (o : Int)) := hcell
            clear hmul hadd1 hadd2 hij hcell hx0 hB hbw hg2
            generalize wr.drewN nq = w2 at hB2 hbw2 hcell2 ⊢
            have hset := hB2.set (i + j) lo
            have hfr := hB2.frozen (i + j)
            clear hB2
            go_wp2
            go_roundg (2 * (ys.length + 1 - (j + 1)) + (if c' = 0 then 0 else 1))
            case measure => exact hdec.out
            case rel => exact ⟨j + 1, c', _, by go_num, rfl, rfl, hset, hbw2.setCell (Nat.le_refl _) _, hst⟩
end Go.Proofs.YtniffclplmgcfaaGreatDoor
