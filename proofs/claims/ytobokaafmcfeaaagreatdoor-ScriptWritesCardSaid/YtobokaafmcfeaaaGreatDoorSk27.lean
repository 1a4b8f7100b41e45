/- Plain: the quire of a form of posits: its bits, and what becomes of them. Conditions: none. -/
/- The quire: its bits, read. Conditions: none. -/
/- Exact numbers without twos and fives: Reduced, walked. Conditions: none. -/
import Derived.Test.YtobokaafmcfeaaaGreatDoorSk26
import Derived.Test.YtobokaafmcfeaaaGreatDoorSk23
import Derived.Deep.RegionHeld3
namespace Go.Proofs.YtobokaafmcfeaaaGreatDoor
open Go.RowKit Go.Cal
/-- Powers of two of posits' numbers are not below that of the least one. -/
theorem posit_low {id : Int} {K : Nat} (h1 : 1 ≤ id) (h4 : id ≤ 4) (hk : (K : Int) ≤ fitM id) (h0 : 0 < K) : 8 - 4 * fW id ≤ (magV id 0 K).2 := by
  have hK1 : fK id = 1 := by
    have : id = 1 ∨ id = 2 ∨ id = 3 ∨ id = 4 := by omega
    rcases this with rfl | rfl | rfl | rfl <;> rfl
  obtain ⟨w1, w2, w3, w4, w5, -⟩ := fo_wide h1 (show id < 15 by omega)
  obtain ⟨k0, kw, k1, k2, k4⟩ := mag_own h1 (show id < 15 by omega) hk (fun _ => h0)
  obtain ⟨a1, -⟩ := mag_range0 h1 (show id < 15 by omega) hk (fun _ => h0)
  have w6 := (k1 hK1).2
  simp only [Nat.add_zero] at w6
  obtain ⟨W, hW⟩ : ∃ W, (fW id).toNat = W := ⟨_, rfl⟩
  have hq : 8 - 4 * (W : Int) ≤ (numQ (fK id).toNat (fW id).toNat (fM id).toNat (fB id).toNat 0 K).2 := by
    unfold numQ
    rw [if_pos (by omega)]
    simp only [Nat.add_zero]
    rw [hW] at w6 ⊢
    have hb := bl_pos h0
    unfold poR poL
    by_cases hlt : K < 2 ^ (W - 1 - 1)
    · rw [if_pos hlt, if_pos hlt]
      have hbl := bl_iff.2 hlt
      omega
    · rw [if_neg hlt, if_neg hlt]
      have hbl : bl (2 ^ (W - 1) - 1 - K) ≤ W - 1 - 1 := bl_iff.2 (by
        have : 2 ^ (W - 1) = 2 * 2 ^ (W - 1 - 1) := by rw [← Nat.pow_succ']; congr 1; omega
        omega)
      omega
  have ho : (numQ (fK id).toNat (fW id).toNat (fM id).toNat (fB id).toNat 0 K).1 ≠ 0 := by
    intro h
    have hm1 : (magV id 0 K).1 = (oddP 64 (numQ (fK id).toNat (fW id).toNat (fM id).toNat (fB id).toNat 0 K).1 (numQ (fK id).toNat (fW id).toNat (fM id).toNat (fB id).toNat 0 K).2).1 := rfl
    rw [hm1, h] at a1
    exact absurd a1 (by simp [oddP])
  have hm : (magV id 0 K).2 = (oddP 64 (numQ (fK id).toNat (fW id).toNat (fM id).toNat (fB id).toNat 0 K).1 (numQ (fK id).toNat (fW id).toNat (fM id).toNat (fB id).toNat 0 K).2).2 := rfl
  rw [hm]
  unfold oddP
  rw [if_neg ho]
  simp only
  omega
theorem posit_top {id : Int} (h1 : 1 ≤ id) (h4 : id ≤ 4) : uN (fK id).toNat (fW id).toNat (fM id).toNat (fB id).toNat (2 * (fitM id).toNat) = 2 ^ (2000 + (4 * (fW id).toNat - 8)) := by
  have : id = 1 ∨ id = 2 ∨ id = 3 ∨ id = 4 := by omega
  rcases this with rfl | rfl | rfl | rfl <;> decide +kernel
/-- The number of a posit, in the least one's units. -/
theorem posit_units {id : Int} {K : Nat} (h1 : 1 ≤ id) (h4 : id ≤ 4) (hk : (K : Int) ≤ fitM id) (h0 : 0 < K) :
    0 ≤ (magV id 0 K).2 + (4 * fW id - 8) ∧ (magV id 0 K).1 * 2 ^ ((magV id 0 K).2 + (4 * fW id - 8)).toNat ≤ 2 ^ (2 * (4 * (fW id).toNat - 8)) := by
  have hl := posit_low h1 h4 hk h0
  obtain ⟨a1, a2, a3, a4, a5, a6⟩ := mag_range0 h1 (show id < 15 by omega) hk (fun _ => h0)
  obtain ⟨w1, w2, w3, w4, w5, -⟩ := fo_wide h1 (show id < 15 by omega)
  have ht := posit_top h1 h4
  have hle := uN_le h1 (show id < 15 by omega) (i := 2 * K) (j := 2 * (fitM id).toNat) (by omega) (by omega)
  rw [ht, ← a6] at hle
  obtain ⟨W, hW⟩ : ∃ W, (fW id).toNat = W := ⟨_, rfl⟩
  have hfW : fW id = (W : Int) := by omega
  rw [hW] at hle ⊢
  rw [hfW] at hl ⊢
  refine ⟨by omega, ?_⟩
  generalize (magV id 0 K).1 = m at *
  generalize (magV id 0 K).2 = e at *
  obtain ⟨a, ha⟩ : ∃ a : Nat, e + (4 * (W : Int) - 8) = a := ⟨(e + (4 * (W : Int) - 8)).toNat, by omega⟩
  have e1 : ((2000 : Int) + e).toNat = a + (2000 - (4 * W - 8)) := by omega
  have e2 : 2000 + (4 * W - 8) = 2 * (4 * W - 8) + (2000 - (4 * W - 8)) := by omega
  rw [e1, e2, Nat.pow_add, Nat.pow_add, ← Nat.mul_assoc] at hle
  rw [ha, Int.toNat_natCast]
  exact Nat.le_of_mul_le_mul_right hle (Nat.two_pow_pos _)
/-- The quire of a form of posits: how many bits it has, the power of its lowest one. -/
def quS (id : Int) : Nat := 16 * (fW id).toNat
def quL (id : Int) : Int := 16 - 8 * fW id
def quN (id : Int) : Nat := 2 ^ (quS id - 1)
/-- Bits of the other sign; the sum; the product of two values. -/
def quT (id : Int) (N : Nat) : Nat := if N = 0 then 0 else 2 ^ quS id - N
def quAdd (id : Int) (N b : Nat) : Nat := if 2 ^ quS id ≤ N + b then N + b - 2 ^ quS id else N + b
def quM (id : Int) (m1 : Nat) (e1 : Int) (m2 : Nat) (e2 : Int) : Nat := m1 * m2 * 2 ^ (e1 + e2 - quL id).toNat
def quPr (id : Int) (n1 : Bool) (m1 : Nat) (e1 : Int) (n2 : Bool) (m2 : Nat) (e2 : Int) (less : Bool) : Nat := if ((n1 != n2) != less) = true then quT id (quM id m1 e1 m2 e2) else quM id m1 e1 m2 e2
/-- What becomes of the bits with a product of two patterns. -/
def quDo (id : Int) (N : Nat) (a b : Int) (less : Bool) : Nat :=
  if fitsV id a ≠ 0 ∨ fitsV id b ≠ 0 then N
  else if N = quN id then N
  else if classV id a = 4 ∨ classV id b = 4 then quN id
  else if classV id a = 2 ∧ classV id b = 2 then quAdd id N (quPr id (decN id a) (decM id a) (decE id a) (decN id b) (decM id b) (decE id b) less)
  else N
def quDoE (id : Int) (a b : Int) : Int := if fitsV id a ≠ 0 ∨ fitsV id b ≠ 0 then 1 else 0
def quNg (id : Int) (N : Nat) : Nat := if N = quN id then N else quT id N
/-- The sign and the size of what is held. -/
def quB (id : Int) (N : Nat) : Bool := decide (quN id ≤ N)
def quA (id : Int) (N : Nat) : Nat := if quB id N = true then quT id N else N
/-- Its pattern. -/
def quP (id : Int) (N : Nat) : Int := if N = quN id then fN id else roundP id 1 (quB id N) (exP (quA id N) (quL id) 0) (exQ (quL id) 0)
theorem quS_bnd {id : Int} (h1 : 1 ≤ id) (h4 : id ≤ 4) : 128 ≤ quS id ∧ quS id ≤ 1024 ∧ quL id = 16 - 8 * ((fW id).toNat : Int) ∧ 8 ≤ (fW id).toNat ∧ (fW id).toNat ≤ 64 := by
  have : id = 1 ∨ id = 2 ∨ id = 3 ∨ id = 4 := by omega
  rcases this with rfl | rfl | rfl | rfl <;> decide +kernel
/-- The product of two numbers of posits: its shift is no negative one; it is well within the bits. -/
theorem quM_bnd {id : Int} {K L : Nat} (h1 : 1 ≤ id) (h4 : id ≤ 4) (hK : (K : Int) ≤ fitM id) (hL : (L : Int) ≤ fitM id) (k0 : 0 < K) (l0 : 0 < L) :
    0 ≤ (magV id 0 K).2 + (magV id 0 L).2 - quL id ∧ 0 < quM id (magV id 0 K).1 (magV id 0 K).2 (magV id 0 L).1 (magV id 0 L).2 ∧
    quM id (magV id 0 K).1 (magV id 0 K).2 (magV id 0 L).1 (magV id 0 L).2 ≤ 2 ^ (quS id - 32) := by
  obtain ⟨p1, p2⟩ := posit_units h1 h4 hK k0
  obtain ⟨q1, q2⟩ := posit_units h1 h4 hL l0
  obtain ⟨a1, -⟩ := mag_range0 h1 (show id < 15 by omega) hK (fun _ => k0)
  obtain ⟨b1, -⟩ := mag_range0 h1 (show id < 15 by omega) hL (fun _ => l0)
  obtain ⟨s1, s2, s3, s4, s5⟩ := quS_bnd h1 h4
  obtain ⟨w1, w2, w3, w4, w5, -⟩ := fo_wide h1 (show id < 15 by omega)
  unfold quM
  unfold quS at *
  rw [s3]
  obtain ⟨W, hW⟩ : ∃ W, (fW id).toNat = W := ⟨_, rfl⟩
  have hfW : fW id = (W : Int) := by omega
  rw [hfW] at p1 p2 q1 q2
  simp only [Int.toNat_natCast] at p2 q2
  rw [hW] at s1 s2 s4 s5 ⊢
  generalize (magV id 0 K).1 = m at *
  generalize (magV id 0 K).2 = e at *
  generalize (magV id 0 L).1 = m' at *
  generalize (magV id 0 L).2 = e' at *
  refine ⟨by omega, Nat.mul_pos (Nat.mul_pos a1 b1) (Nat.two_pow_pos _), ?_⟩
  have h := Nat.mul_le_mul p2 q2
  have e1 : (e + e' - (16 - 8 * (W : Int))).toNat = (e + (4 * (W : Int) - 8)).toNat + (e' + (4 * (W : Int) - 8)).toNat := by omega
  rw [e1, Nat.pow_add]
  rw [← Nat.pow_add] at h
  calc m * m' * (2 ^ (e + (4 * (W : Int) - 8)).toNat * 2 ^ (e' + (4 * (W : Int) - 8)).toNat) = m * 2 ^ (e + (4 * (W : Int) - 8)).toNat * (m' * 2 ^ (e' + (4 * (W : Int) - 8)).toNat) := by ac_rfl
    _ ≤ 2 ^ (2 * (4 * W - 8) + 2 * (4 * W - 8)) := h
    _ = 2 ^ (16 * W - 32) := by congr 1; omega
theorem quT_lt {id : Int} {N : Nat} (h : N < 2 ^ quS id) : quT id N < 2 ^ quS id := by
  unfold quT
  split
  · exact Nat.two_pow_pos _
  · omega
theorem quAdd_lt {id : Int} {N b : Nat} (h : N < 2 ^ quS id) (hb : b < 2 ^ quS id) : quAdd id N b < 2 ^ quS id := by
  unfold quAdd
  split <;> omega
theorem quN_lt {id : Int} (h1 : 1 ≤ id) (h4 : id ≤ 4) : quN id < 2 ^ quS id ∧ 0 < quN id := by
  obtain ⟨s1, -⟩ := quS_bnd h1 h4
  unfold quN
  refine ⟨Nat.pow_lt_pow_right (by decide) (by omega), Nat.two_pow_pos _⟩
theorem quNg_lt {id : Int} {N : Nat} (h : N < 2 ^ quS id) : quNg id N < 2 ^ quS id := by
  unfold quNg
  split
  · exact h
  · exact quT_lt h
theorem posit_kind {id : Int} (h1 : 1 ≤ id) (h4 : id ≤ 4) : fK id = 1 := by
  have : id = 1 ∨ id = 2 ∨ id = 3 ∨ id = 4 := by omega
  rcases this with rfl | rfl | rfl | rfl <;> rfl
/-- Of two patterns of numbers: the bits of their product. -/
theorem quPr_bnd {id a b : Int} (h1 : 1 ≤ id) (h4 : id ≤ 4) (fa : fitsV id a = 0) (fb : fitsV id b = 0) (ha : 0 ≤ a) (hb : 0 ≤ b) (ca : classV id a = 2) (cb : classV id b = 2) :
    0 ≤ decE id a + decE id b - quL id ∧ 0 < quM id (decM id a) (decE id a) (decM id b) (decE id b) ∧ quM id (decM id a) (decE id a) (decM id b) (decE id b) ≤ 2 ^ (quS id - 32) ∧ decM id a < 18446744073709551616 ∧ decM id b < 18446744073709551616 ∧ -2000 ≤ decE id a ∧ decE id a ≤ 2000 ∧ -2000 ≤ decE id b ∧ decE id b ≤ 2000 := by
  obtain ⟨-, h2, a2⟩ := fits_two fa
  obtain ⟨-, -, b2⟩ := fits_two fb
  have xa := fin_of h1 h2 ha a2 ca
  have xb := fin_of h1 h2 hb b2 cb
  obtain ⟨-, -, p3, p4⟩ := xa.lims
  obtain ⟨-, -, q3, q4⟩ := xb.lims
  have hk := posit_kind h1 h4
  have := quM_bnd h1 h4 p4 q4 (p3 (by omega)) (q3 (by omega))
  rw [xa.mag, xb.mag] at this
  obtain ⟨r1, r2, r3, r4⟩ := xa.bnd
  obtain ⟨t1, t2, t3, t4⟩ := xb.bnd
  exact ⟨this.1, this.2.1, this.2.2, r2, t2, r3, r4, t3, t4⟩
theorem quDo_lt {id a b : Int} {N : Nat} {less : Bool} (h1 : 1 ≤ id) (h4 : id ≤ 4) (h : N < 2 ^ quS id) (ha : 0 ≤ a) (hb : 0 ≤ b) : quDo id N a b less < 2 ^ quS id := by
  unfold quDo
  split
  · exact h
  · rename_i hf
    split
    · exact h
    · split
      · exact (quN_lt h1 h4).1
      · split
        · rename_i hc
          obtain ⟨-, -, p3, -⟩ := quPr_bnd h1 h4 (Classical.byContradiction fun h => hf (.inl h)) (Classical.byContradiction fun h => hf (.inr h)) ha hb hc.1 hc.2
          obtain ⟨s1, -⟩ := quS_bnd h1 h4
          have hlt : quM id (decM id a) (decE id a) (decM id b) (decE id b) < 2 ^ quS id := Nat.lt_of_le_of_lt p3 (Nat.pow_lt_pow_right (by decide) (by omega))
          refine quAdd_lt h ?_
          unfold quPr
          split
          · exact quT_lt hlt
          · exact hlt
        · exact h
end Go.Proofs.YtobokaafmcfeaaaGreatDoor
namespace Go.Proofs.YtobokaafmcfeaaaGreatDoor
open Go.RowKit Go.Cal
/-- The block g holds a quire of that form, and of those bits. -/
def QuS (g : Nat) (id : Int) (N : Nat) (w : World) : Prop := ∃ A n c, pBlk g #[.int .i64 (fK id), .int .i64 (fW id), .int .i64 (fM id), .int .i64 (fB id), .int .u64 (fT id), .int .u64 (fI id), .int .u64 (fN id), .int .i64 id, .slice A n c] 135 w ∧ IsT w (.slice A n c) 16 N
/-- Where the block g alone has been written, and no word of any number. -/
structure Mut (g : Nat) (w w' : World) : Prop where
  os : w'.os = w.os
  tape : w'.tape = w.tape
  output : w'.output = w.output
  size : w.heap.size ≤ w'.heap.size
  block : ∀ k, k < w.heap.size → k ≠ g → w'.heap[k]? = w.heap[k]?
  word : ∀ (a : Addr) (x : Int), a.block < w.heap.size → w.cell? a = some (.int .u64 x) → w'.cell? a = some (.int .u64 x)
theorem Mut.of {g : Nat} {w w' : World} (h : Below w.heap.size w w') : Mut g w w' := ⟨h.os, h.tape, h.output, h.size, fun k hk _ => h.block k hk, fun a x ha hc => by rw [h.cell ha]; exact hc⟩
theorem Mut.trans {g : Nat} {a b c : World} (h : Mut g a b) (k : Mut g b c) : Mut g a c :=
  ⟨k.os.trans h.os, k.tape.trans h.tape, k.output.trans h.output, Nat.le_trans h.size k.size, fun i hi hg => (k.block i (Nat.lt_of_lt_of_le hi h.size) hg).trans (h.block i hi hg), fun a x ha hc => k.word a x (Nat.lt_of_lt_of_le ha h.size) (h.word a x ha hc)⟩
theorem Mut.below {g B : Nat} {w w' : World} (h : Mut g w w') (hB : B ≤ w.heap.size) (hg : B ≤ g) : Below B w w' := ⟨h.os, h.tape, h.output, h.size, fun k hk => h.block k (by omega) (by omega)⟩
theorem IsT.mut {g k N : Nat} {v : Value} {w w' : World} (h : IsT w v k N) (hm : Mut g w w') : IsT w' v k N := by
  obtain ⟨A, c, zs, h1, h2, h3⟩ := h
  refine ⟨A, c, zs, h1, ⟨?_, fun b off e j hj => ?_⟩, h3⟩
  · rcases h2.place with h | ⟨b, off, e, hb⟩
    · exact .inl h
    · exact .inr ⟨b, off, e, Nat.lt_of_lt_of_le hb hm.size⟩
  · have hc := h2.cells b off e j hj
    exact hm.word _ _ (cell_lt hc) hc
theorem pBlk.mut {g h : Nat} {cs : Array Value} {t : TypeId} {w w' : World} (hp : pBlk h cs t w) (hm : Mut g w w') (hne : h ≠ g) : pBlk h cs t w' := by
  have hlt := hp.lt
  unfold pBlk at *
  rw [hm.block h hlt hne]
  exact hp
theorem Mut.set {g i : Nat} {cs : Array Value} {t : TypeId} {w : World} (hp : pBlk g cs t w) (u y : Value) (hy : cs[i]? = some y) (hn : ∀ x, y ≠ .int .u64 x) : Mut g w (w.setCell ⟨g, i, none⟩ u) := by
  refine ⟨rfl, rfl, rfl, by simp [World.setCell], fun k hk hg => Below.heap_setCell _ _ _ _ hg, fun a x ha hc => ?_⟩
  by_cases hp' : (⟨g, i, none⟩ : Addr) = a
  · subst hp'
    exfalso
    rw [hp.cell i y hy] at hc
    injection hc with hc
    exact hn x hc
  · rw [World.cell?_setCell_other _ _ _ _ hp']
    exact hc
theorem IsT.more16 {w : World} {v : Value} {k k' N : Nat} (h : IsT w v k N) (hk : N < 18446744073709551616 ^ k') : IsT w v k' N := by
  obtain ⟨A, c, zs, h1, h2, h3, h4, h5, h6⟩ := h
  exact ⟨A, c, zs, h1, h2, h3, h4, h6.length_le hk, h6⟩
theorem two_word {n k : Nat} (h : n < 64 * k) : 2 ^ n < 18446744073709551616 ^ k := by
  have e : (18446744073709551616 : Nat) = 2 ^ 64 := by decide
  rw [e, ← Nat.pow_mul]
  exact Nat.pow_lt_pow_right (by decide) h
/-- Two to the power of a number. -/
theorem power_t (n : Nat) (hn : n ≤ 1100) (w : World) : Calls Tryz.prog 182 #[.int .i64 (n : Nat)] w fun e w' => ∃ v, e = .returned v ∧ IsT w' v 18 (2 ^ n) ∧ Below w.heap.size w w' := by
  go_enter Tryz.func182, Tryz.ntmps182
  go_wp2_with fail
  refine (of_t w 1 (by decide)).mono ?_
  rintro e w1 ⟨v, rfl, hv, hb⟩
  go_wp2_with fail
  refine (shl_t (n : Int) 18 (2 ^ n) (IsT.isN hv) (by decide) (by rw [Nat.one_mul]; congr 1; omega) (two_word (by omega))).mono ?_
  rintro e w2 ⟨v2, rfl, hv2, hb2⟩
  go_wp2
  go_ret
  exact ⟨_, rfl, hv2, hb.trans (hb2.mono hb.size)⟩
section
variable {w W W' : World} {A : Option Addr} {n c X g : Nat} {id : Int}
theorem boxQ (hL : LiveP w W [pT (.slice A n c) 16 X, pBlk g #[.int .i64 (fK id), .int .i64 (fW id), .int .i64 (fM id), .int .i64 (fB id), .int .u64 (fT id), .int .u64 (fI id), .int .u64 (fN id), .int .i64 id, .slice A n c] 135]) : (LiveP w W [pT (.slice A n c) 16 X, pBlk g #[.int .i64 (fK id), .int .i64 (fW id), .int .i64 (fM id), .int .i64 (fB id), .int .u64 (fT id), .int .u64 (fI id), .int .u64 (fN id), .int .i64 id, .slice A n c] 135] ∧ g < (W).heap.size ∧ (W).cell? ⟨g, 1, none⟩ = some (.int .i64 (fW id)) ∧ (W).cell? ⟨g, 8, none⟩ = some (.slice A n c)) := by
  have p := hL.get (P := pBlk g #[.int .i64 (fK id), .int .i64 (fW id), .int .i64 (fM id), .int .i64 (fB id), .int .u64 (fT id), .int .u64 (fI id), .int .u64 (fN id), .int .i64 id, .slice A n c] 135) (by repeat (first | exact List.mem_cons_self | apply List.mem_cons_of_mem))
  exact ⟨hL, p.lt, p.cell 1 _ rfl, p.cell 8 _ rfl⟩
theorem keepQ (hS : (LiveP w W [pT (.slice A n c) 16 X, pBlk g #[.int .i64 (fK id), .int .i64 (fW id), .int .i64 (fM id), .int .i64 (fB id), .int .u64 (fT id), .int .u64 (fI id), .int .u64 (fN id), .int .i64 id, .slice A n c] 135] ∧ g < (W).heap.size ∧ (W).cell? ⟨g, 1, none⟩ = some (.int .i64 (fW id)) ∧ (W).cell? ⟨g, 8, none⟩ = some (.slice A n c))) (hb : Below W.heap.size W W') : (LiveP w W' [pT (.slice A n c) 16 X, pBlk g #[.int .i64 (fK id), .int .i64 (fW id), .int .i64 (fM id), .int .i64 (fB id), .int .u64 (fT id), .int .u64 (fI id), .int .u64 (fN id), .int .i64 id, .slice A n c] 135] ∧ g < (W').heap.size ∧ (W').cell? ⟨g, 1, none⟩ = some (.int .i64 (fW id)) ∧ (W').cell? ⟨g, 8, none⟩ = some (.slice A n c)) := boxQ (hS.1.go hb)
theorem wideQ (h1 : 1 ≤ id) (h4 : id ≤ 4) : ∃ V : Nat, fW id = (V : Int) ∧ 8 ≤ V ∧ V ≤ 64 ∧ quS id = 16 * V ∧ quL id = 16 - 8 * (V : Int) := by
  obtain ⟨s1, s2, s3, s4, s5⟩ := quS_bnd h1 h4
  obtain ⟨w1, w2, w3, w4, w5, -⟩ := fo_wide h1 (show id < 15 by omega)
  exact ⟨(fW id).toNat, w5, s4, s5, rfl, s3⟩
set_option maxRecDepth 100000 in
theorem qsz_q (h1 : 1 ≤ id) (h4 : id ≤ 4) (hc : W.cell? ⟨g, 1, none⟩ = some (.int .i64 (fW id))) : Calls Tryz.prog 183 #[.pointer (some ⟨g, 0, none⟩)] W fun e w' => e = .returned (.int .i64 (quS id : Nat)) ∧ W = w' := by
  obtain ⟨V, hV, v1, v2, v3, -⟩ := wideQ h1 h4
  rw [hV] at hc
  rw [v3]
  clear hV v3
  go_enter Tryz.func183, Tryz.ntmps183
  go_wp2
  go_ret
  exact ⟨by simp, rfl⟩
set_option maxRecDepth 100000 in
theorem qlow_q (h1 : 1 ≤ id) (h4 : id ≤ 4) (hc : W.cell? ⟨g, 1, none⟩ = some (.int .i64 (fW id))) : Calls Tryz.prog 186 #[.pointer (some ⟨g, 0, none⟩)] W fun e w' => e = .returned (.int .i64 (quL id)) ∧ W = w' := by
  obtain ⟨V, hV, v1, v2, -, v3⟩ := wideQ h1 h4
  rw [hV] at hc
  rw [v3]
  clear hV v3
  go_enter Tryz.func186, Tryz.ntmps186
  go_wp2
  go_ret
  exact ⟨by simp, rfl⟩
set_option maxRecDepth 100000 in
theorem qnar_q (h1 : 1 ≤ id) (h4 : id ≤ 4) (hc : W.cell? ⟨g, 1, none⟩ = some (.int .i64 (fW id))) : Calls Tryz.prog 178 #[.pointer (some ⟨g, 0, none⟩)] W fun e w' => ∃ v, e = .returned v ∧ IsT w' v 18 (quN id) ∧ Below W.heap.size W w' := by
  have hsz := Lib.hid (qsz_q h1 h4 hc)
  obtain ⟨s1, s2, -⟩ := quS_bnd h1 h4
  obtain ⟨S, hS⟩ : ∃ S, quS id = S + 1 := ⟨quS id - 1, by omega⟩
  have hN : quN id = 2 ^ S := by unfold quN; rw [hS]; rfl
  rw [hN]
  rw [hS] at hsz s1 s2
  have hpw := Lib.hid fun w => power_t S (by omega) w
  clear hS hN hc
  go_enter Tryz.func178, Tryz.ntmps178
  go_wp2_with fail
  refine hsz.out.mono ?_
  rintro e w1 ⟨rfl, rfl⟩
  go_wp2_with fail
  refine (hpw.out _).mono ?_
  rintro e w2 ⟨v2, rfl, hv2, hb2⟩
  go_wp2
  go_ret
  exact ⟨_, rfl, hv2, hb2⟩
end
end Go.Proofs.YtobokaafmcfeaaaGreatDoor
namespace Go.Proofs.YtobokaafmcfeaaaGreatDoor
open Go.RowKit Go.Cal
section
variable {w W W' : World} {A : Option Addr} {n c X g h : Nat} {neg : Bool} {s0 : Value} {t f : Int}
theorem boxR (hL : LiveP w W [pT (.slice A n c) 128 X, pBlk h #[.slice A n c] 33, pBlk g #[.bool neg, s0, .int .i64 t, .int .i64 f] 101]) : (LiveP w W [pT (.slice A n c) 128 X, pBlk h #[.slice A n c] 33, pBlk g #[.bool neg, s0, .int .i64 t, .int .i64 f] 101] ∧ h < (W).heap.size ∧ g < (W).heap.size ∧ (W).cell? ⟨h, 0, none⟩ = some (.slice A n c) ∧ (W).cell? ⟨g, 3, none⟩ = some (.int .i64 f)) := by
  have p1 := hL.get (P := pBlk h #[.slice A n c] 33) (by repeat (first | exact List.mem_cons_self | apply List.mem_cons_of_mem))
  have p2 := hL.get (P := pBlk g #[.bool neg, s0, .int .i64 t, .int .i64 f] 101) (by repeat (first | exact List.mem_cons_self | apply List.mem_cons_of_mem))
  exact ⟨hL, p1.lt, p2.lt, p1.cell 0 _ rfl, p2.cell 3 _ rfl⟩
theorem keepR (hS : (LiveP w W [pT (.slice A n c) 128 X, pBlk h #[.slice A n c] 33, pBlk g #[.bool neg, s0, .int .i64 t, .int .i64 f] 101] ∧ h < (W).heap.size ∧ g < (W).heap.size ∧ (W).cell? ⟨h, 0, none⟩ = some (.slice A n c) ∧ (W).cell? ⟨g, 3, none⟩ = some (.int .i64 f))) (hb : Below W.heap.size W W') : (LiveP w W' [pT (.slice A n c) 128 X, pBlk h #[.slice A n c] 33, pBlk g #[.bool neg, s0, .int .i64 t, .int .i64 f] 101] ∧ h < (W').heap.size ∧ g < (W').heap.size ∧ (W').cell? ⟨h, 0, none⟩ = some (.slice A n c) ∧ (W').cell? ⟨g, 3, none⟩ = some (.int .i64 f)) := boxR (hS.1.go hb)
theorem powR (k : Nat) (hk : k ≤ 100) : Calls Tryz.prog 74 #[.int .u64 5, .int .i64 (k : Nat)] W fun e w' => ∃ v, e = .returned v ∧ IsT w' v 101 (5 ^ k) ∧ Below W.heap.size W w' :=
  (pow_t W 5 (by decide) (k : Nat) k (by omega)).mono fun e w' ⟨v, he, hv, hb⟩ => ⟨v, he, by
    obtain ⟨A, c, zs, h1, h2, h3, h4, h5, h6⟩ := hv
    exact ⟨A, c, zs, h1, h2, h3, h4, by omega, h6⟩, hb⟩
theorem divR {v : Value} (hS : (LiveP w W [pT (.slice A n c) 128 X, pBlk h #[.slice A n c] 33, pBlk g #[.bool neg, s0, .int .i64 t, .int .i64 f] 101] ∧ h < (W).heap.size ∧ g < (W).heap.size ∧ (W).cell? ⟨h, 0, none⟩ = some (.slice A n c) ∧ (W).cell? ⟨g, 3, none⟩ = some (.int .i64 f))) (k : Nat) (hv : IsT W v 101 (5 ^ k)) : Calls Tryz.prog 204 #[.slice A n c, v] W fun e w' => ∃ A1 n1 c1 v', e = .returned (.tuple #[.slice A1 n1 c1, v', .bool true]) ∧ IsT w' (.slice A1 n1 c1) 128 (X / 5 ^ k) ∧ IsT w' v' 101 (X % 5 ^ k) ∧ Below W.heap.size W w' :=
  (div_t (IsT.isN (hS.1.get (P := pT (.slice A n c) 128 X) (by repeat (first | exact List.mem_cons_self | apply List.mem_cons_of_mem)))) hv.isN (by decide) (by decide) (Nat.pow_pos (by decide))).mono fun e w' ⟨v, v', he, h1, h2, hb⟩ => by
    obtain ⟨A1, c1, zs, rfl, -⟩ := id h1
    exact ⟨A1, _, c1, v', he, h1, h2, hb⟩
end
theorem pBlk_madeR (w : World) (cs : Array Value) (t : TypeId) (s : Nat) (hs : w.heap.size = s) : pBlk s cs t (w.alloc (.cells cs t)) := by
  subst hs
  exact pBlk_made w cs t
theorem cells4R {w : World} {g : Nat} {a b c d : Value} {t : TypeId} (hp : pBlk g #[a, b, c, d] t w) :
    w.cell? ⟨g, 0, none⟩ = some a ∧ w.cell? ⟨g, 1, none⟩ = some b ∧ w.cell? ⟨g, 2, none⟩ = some c ∧ w.cell? ⟨g, 3, none⟩ = some d := ⟨hp.cell 0 _ rfl, hp.cell 1 _ rfl, hp.cell 2 _ rfl, hp.cell 3 _ rfl⟩
theorem pBlk.othR {g g' : Nat} {cs : Array Value} {t : TypeId} {w : World} (h : pBlk g cs t w) (hne : g ≠ g') (i : Nat) (u : Value) : pBlk g cs t (w.setCell ⟨g', i, none⟩ u) := by
  unfold pBlk at *
  simp only [World.setCell, Array.getElem?_modify]
  rw [if_neg (fun e => hne e.symm)]
  exact h
/-- Other blocks than two lie as they lay. -/
def Kept2 (g h : Nat) (W W' : World) : Prop := ∀ k, k < W.heap.size → k ≠ g → k ≠ h → W'.heap[k]? = W.heap[k]?
theorem Kept2.blk {g h k : Nat} {W W' : World} {cs : Array Value} {t : TypeId} (hk : Kept2 g h W W') (hp : pBlk k cs t W) (n1 : k ≠ g) (n2 : k ≠ h) : pBlk k cs t W' := (hk k hp.lt n1 n2).trans hp
/-- The two variables of Reduced. -/
def RedS (B g h : Nat) (neg : Bool) (s0 : Value) (t f : Int) (X : Nat) (W : World) : Prop := B ≤ g ∧ B ≤ h ∧ g ≠ h ∧ ∃ A n c, pBlk g #[.bool neg, s0, .int .i64 t, .int .i64 f] 101 W ∧ pBlk h #[.slice A n c] 33 W ∧ IsT W (.slice A n c) 128 X
theorem RedS.below {B g h : Nat} {neg : Bool} {s0 : Value} {t f : Int} {X : Nat} {W W' : World} (hS : RedS B g h neg s0 t f X W) (hb : Below W.heap.size W W') : RedS B g h neg s0 t f X W' := by
  obtain ⟨h1, h2, h3, A, n, c, pg, ph, hv⟩ := hS
  exact ⟨h1, h2, h3, A, n, c, pBlk_st _ _ _ _ _ pg hb, pBlk_st _ _ _ _ _ ph hb, hv.below hb⟩
set_option maxRecDepth 100000 in
set_option maxHeartbeats 2000000 in
theorem out_any {W : World} {B g h X : Nat} {neg : Bool} {s0 : Value} {t f : Int} (k : Nat) (hk : k ≤ 100) (hS : RedS B g h neg s0 t f X W) (hf : -100000 ≤ f ∧ f ≤ 100000) (hs0 : ∀ x, s0 ≠ .int .u64 x) :
    Calls Tryz.prog 240 #[.int .i64 (k : Nat), .pointer (some ⟨h, 0, none⟩), .pointer (some ⟨g, 0, none⟩)] W fun e w' =>
      (X % 5 ^ k ≠ 0 ∧ e = .returned (.bool false) ∧ RedS B g h neg s0 t f X w' ∧ Below B W w' ∧ Kept2 g h W w') ∨ (X % 5 ^ k = 0 ∧ e = .returned (.bool true) ∧ RedS B g h neg s0 t (f + k) (X / 5 ^ k) w' ∧ Below B W w' ∧ Kept2 g h W w') := by
  obtain ⟨b1, b2, b3, A, n, c, pg, ph, hv⟩ := hS
  have hL := (((LiveP.start W).put (pBlk_st g #[.bool neg, s0, .int .i64 t, .int .i64 f] 101) pg).put (pBlk_st h #[.slice A n c] 33) ph).put (pT_st (.slice A n c) 128 X) hv
  have hS0 := boxR (hL.go (Below.refl _ _).drew)
  obtain ⟨-, hh, hg, c0, c3⟩ := boxR hL
  have hdv := Lib.hid fun (W' : World) (v : Value) hS (hv : IsT W' v 101 (5 ^ k)) => divR (w := W) (W := W') (A := A) (n := n) (c := c) (X := X) (g := g) (h := h) (neg := neg) (s0 := s0) (t := t) (f := f) hS k hv
  have hpw := Lib.hid fun (W' : World) => powR (W := W') k hk
  go_enter Tryz.func240, Tryz.ntmps240
  go_wp2_with fail
  go_region_held3 (fun w' => (LiveP W w' [pT (.slice A n c) 128 X, pBlk h #[.slice A n c] 33, pBlk g #[.bool neg, s0, .int .i64 t, .int .i64 f] 101] ∧ h < w'.heap.size ∧ g < w'.heap.size ∧ w'.cell? ⟨h, 0, none⟩ = some (.slice A n c) ∧ w'.cell? ⟨g, 3, none⟩ = some (.int .i64 f))) (first | exact hS0 | with_reducible assumption | exact keepR (by with_reducible assumption) (by with_reducible assumption))
    (first
      | (go_at_call 74; with_reducible refine (hpw.out _).mono ?_; rintro e w4 ⟨v4, rfl, hv4, hb4⟩)
      | (go_at_call 204; with_reducible refine (hdv.out _ _ (by with_reducible assumption) (by first | with_reducible assumption | exact hv4.below (by with_reducible assumption))).mono ?_; rintro e w5 ⟨A1, n1, c1, v5, rfl, hq5, hr5, hb5⟩))
  have hq : (LiveP W w5 [pT (.slice A n c) 128 X, pBlk h #[.slice A n c] 33, pBlk g #[.bool neg, s0, .int .i64 t, .int .i64 f] 101] ∧ h < (w5).heap.size ∧ g < (w5).heap.size ∧ (w5).cell? ⟨h, 0, none⟩ = some (.slice A n c) ∧ (w5).cell? ⟨g, 3, none⟩ = some (.int .i64 f)) := by with_reducible assumption
  clear hS0 hdv hpw hh hg c0 c3
  by_cases hz : X % 5 ^ k = 0
  · have hbt := bits_b hr5
    have e0 : blen (X % 5 ^ k) = 0 := by rw [hz]; rfl
    rw [e0] at hbt
    replace hbt := Lib.hid hbt
    replace hz := Lib.hid hz
    replace e0 := Lib.hid e0
    go_wp2_with fail
    refine hbt.out.mono ?_
    rintro e w6 ⟨rfl, hb6⟩
    have hq5' := hq5.below hb6
    have hL6 := hq.1.go hb6
    clear hq5 hr5 hbt hb6 hq
    obtain ⟨-, hh, hg, c0, c3⟩ := boxR hL6
    have pg6 := hL6.get (P := pBlk g #[.bool neg, s0, .int .i64 t, .int .i64 f] 101) (by repeat (first | exact List.mem_cons_self | apply List.mem_cons_of_mem))
    have ph6 := hL6.get (P := pBlk h #[.slice A n c] 33) (by repeat (first | exact List.mem_cons_self | apply List.mem_cons_of_mem))
    have fh := ph6.free 0
    have fg := pg6.free 3
    have hw1 : IntKind.i64.wrap (f + (k : Int)) = f + k := by rw [IntKind.wrap_i64]; omega
    replace hw1 := Lib.hid hw1
    go_wp2_with fail
    go_region
    have pg7 : pBlk g #[.bool neg, s0, .int .i64 t, .int .i64 f] 101 (w6.setCell ⟨h, 0, none⟩ (.slice A1 n1 c1)) := pg6.othR b3 _ _
    have ph7 : pBlk h #[.slice A1 n1 c1] 33 (w6.setCell ⟨h, 0, none⟩ (.slice A1 n1 c1)) := ph6.setX 0 _
    have hv7 := IsT.apartX (i := 0) (u := .slice A1 n1 c1) hq5' ph6 (fun x hx n => by simp at hx; subst hx; simp)
    have pg8 : pBlk g #[.bool neg, s0, .int .i64 t, .int .i64 (f + k)] 101 ((w6.setCell ⟨h, 0, none⟩ (.slice A1 n1 c1)).setCell ⟨g, 3, none⟩ (.int .i64 (f + k))) := pg7.setX 3 _
    have ph8 : pBlk h #[.slice A1 n1 c1] 33 ((w6.setCell ⟨h, 0, none⟩ (.slice A1 n1 c1)).setCell ⟨g, 3, none⟩ (.int .i64 (f + k))) := ph7.othR (fun e => b3 e.symm) _ _
    have hv8 := IsT.apartX (i := 3) (u := .int .i64 (f + k)) hv7 pg7 (fun x hx n => by
      simp at hx
      rcases hx with rfl | rfl | rfl | rfl
      · simp
      · exact hs0 n
      · simp
      · simp)
    have hB : Below B W ((w6.setCell ⟨h, 0, none⟩ (.slice A1 n1 c1)).setCell ⟨g, 3, none⟩ (.int .i64 (f + k))).drew := (((hL6.below.mono (by have := pg.lt; omega)).setCell b2 _).setCell b1 _).drew
    go_wp2
    go_ret
    refine .inr ⟨hz.out, rfl, ⟨b1, b2, b3, A1, n1, c1, pg8, ph8, hv8.below (Below.refl _ _).drew⟩, hB, fun k hk n1 n2 => ?_⟩
    exact ((Below.heap_setCell _ _ _ _ n1).trans (Below.heap_setCell _ _ _ _ n2)).trans (hL6.below.block k hk)
  · have hbt := bits_b hr5
    obtain ⟨y, hy⟩ : ∃ y, blen (X % 5 ^ k) = y := ⟨_, rfl⟩
    have hy0 : 0 < y := by
      rcases Nat.eq_zero_or_pos y with h0 | h0
      · have := (blen_bnd (Nat.pos_of_ne_zero hz)).1
        rw [hy, h0] at this
        omega
      · exact h0
    rw [hy] at hbt
    replace hbt := Lib.hid hbt
    replace hz := Lib.hid hz
    replace hy := Lib.hid hy
    go_wp2_with fail
    refine hbt.out.mono ?_
    rintro e w6 ⟨rfl, hb6⟩
    have hL6 := hq.1.go hb6
    go_wp2
    go_ret
    exact .inl ⟨hz.out, rfl, ⟨b1, b2, b3, A, n, c, hL6.get (P := pBlk g #[.bool neg, s0, .int .i64 t, .int .i64 f] 101) (by repeat (first | exact List.mem_cons_self | apply List.mem_cons_of_mem)), hL6.get (P := pBlk h #[.slice A n c] 33) (by repeat (first | exact List.mem_cons_self | apply List.mem_cons_of_mem)), hL6.get (P := pT (.slice A n c) 128 X) (by repeat (first | exact List.mem_cons_self | apply List.mem_cons_of_mem))⟩, hL6.below.mono (by have := pg.lt; omega), fun k hk _ _ => hL6.below.block k hk⟩
end Go.Proofs.YtobokaafmcfeaaaGreatDoor
