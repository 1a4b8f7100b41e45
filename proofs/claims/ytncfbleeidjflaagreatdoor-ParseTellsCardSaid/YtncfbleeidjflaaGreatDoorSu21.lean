/- The document's magnitudes: posits' fields and numbers, numbers with mantissas; walked. Conditions: none. -/
/- The document's magnitudes: numbers; walked. Conditions: none. -/
/- The document's magnitudes: posits' numbers; walked. Conditions: none. -/
import Derived.Test.YtncfbleeidjflaaGreatDoorSu20
import Derived.Test.YtncfbleeidjflaaGreatDoorSu05
namespace Go.Proofs.YtncfbleeidjflaaGreatDoor
open Go.RowKit Go.Cal
theorem strL_extractR (S : List UInt8) (a b : Nat) : (strL S).extract a b = strL ((S.drop a).take (b - a)) := by
  unfold strL
  refine ByteArray.ext ?_
  rw [ByteArray.data_extract]
  refine Array.toList_inj.1 ?_
  rw [Array.toList_extract]
theorem bitS_bits : ∀ (n key : Nat), ∀ c ∈ bitS n key, c = 48 ∨ c = 49
  | 0, _, c, h => by simp [bitS] at h
  | n + 1, key, c, h => by
    rw [bitS] at h
    rcases List.mem_cons.1 h with rfl | h
    · rcases (show key / 2 ^ n % 2 = 0 ∨ key / 2 ^ n % 2 = 1 by omega) with h | h <;> rw [h]
      · exact .inl rfl
      · exact .inr rfl
    · exact bitS_bits n key c h
theorem fields_size : (Tryz.prog.info? 228).map (·.size) = some 4 := by kernel_rfl
set_option maxRecDepth 100000 in
set_option maxHeartbeats 4000000 in
theorem rsplit5_go (n key R L : Nat) (rg : Int) (hn : 2 ≤ n) (hn' : n ≤ 64) (h0 : 0 < key) (hk : key < 2 ^ n) (hrun : RunOf (bitS n key) R) (h1R : 1 ≤ R) (hL : L = n - R - 1)
    (hf : ((bitS n key).getD 0 0 = 48 ∧ rg = -(R : Int)) ∨ ((bitS n key).getD 0 0 = 49 ∧ rg = (R : Int) - 1)) (w : World) :
    Calls Tryz.prog 187 #[.int .i64 ((n : Int) + 1), .int .u64 (key : Nat)] w fun e w' => e = .returned (.tuple #[.agg #[.int .i64 rg, .int .i64 (poE L (key % 2 ^ L) : Nat), .int .u64 (key % 2 ^ L % 2 ^ (L - 2) : Nat), .int .i64 (L - 2 : Nat)], .bool true]) ∧ Below w.heap.size w w' := by
  have hbs := Lib.hid fun w => rbits5_any n key hn hn' h0 hk w
  have hdr : ∀ k, k ≤ n → (bitS n key).drop k = bitS (n - k) key := fun k h => bitS_drop n key k h
  obtain ⟨s, hs⟩ : ∃ s, bitS n key = s := ⟨_, rfl⟩
  have hlen : s.length = n := by rw [← hs, bitS_len]
  rw [hs] at hbs hrun hf hdr
  have hsz := strL_size s
  rw [hlen] at hsz
  obtain ⟨r1, r2, r3⟩ := hrun
  rw [hlen] at r1 r3
  obtain ⟨c0, hc0⟩ : ∃ c, s.getD 0 0 = c := ⟨_, rfl⟩
  rw [hc0] at r2 r3 hf
  have hg0 : ∀ h : 0 < (strL s).size, (strL s)[0] = c0 := fun h => by rw [strL_get, hc0]
  have hsl : R + 1 < n → (strL s).extract (R + 1) n = strL (bitS L key) := fun h => by
    rw [strL_extractR, hdr (R + 1) (by omega), List.take_of_length_le (by rw [bitS_len]; omega), hL, show n - (R + 1) = n - R - 1 by omega]
  have hl0 : ¬ R + 1 < n → L = 0 := fun h => by omega
  have hcat : strL (bitS L key) ++ (⟨#[48, 48]⟩ : ByteArray) = strL (bitS L key ++ [48, 48]) := strL_app _ [48, 48]
  have hcz : (strL (bitS L key ++ [48, 48])).size = L + 2 := by rw [strL_size, List.length_append, bitS_len]; rfl
  have hrz : (strL (bitS L key)).size = L := by rw [strL_size, bitS_len]
  have he2 : (strL (bitS L key ++ [48, 48])).extract 0 2 = strL ((bitS L key ++ [48, 48]).take 2) := by rw [strL_extractR, List.drop_zero]
  have hd2 : (strL (bitS L key)).extract 2 L = strL ((bitS L key).drop 2) := by rw [strL_extractR, List.take_of_length_le (by rw [List.length_drop, bitS_len]; omega)]
  have hbb := bitS_bits L key
  have hnb := Lib.hid fun w => rnumb5_any ((bitS L key ++ [48, 48]).take 2) (by rw [List.length_take]; omega) (fun c hc => by
    have h1 := List.mem_of_mem_take hc
    rcases List.mem_append.1 h1 with h2 | h2
    · exact hbb c h2
    · left; simpa using h2) w
  have hnf := Lib.hid fun w => rnumb5_any ((bitS L key).drop 2) (by rw [List.length_drop, bitS_len]; omega) (fun c hc => hbb c (List.mem_of_mem_drop hc)) w
  rw [exp_text] at hnb
  have hfr : 2 ≤ L → bitN ((bitS L key).drop 2) 0 = key % 2 ^ L % 2 ^ (L - 2) := frac_text
  obtain ⟨X, hX⟩ : ∃ X, poE L (key % 2 ^ L) = X := ⟨_, rfl⟩
  have hX4 : X < 4 := by rw [← hX]; exact poE_lt (Nat.mod_lt _ (Nat.two_pow_pos _))
  obtain ⟨Y, hY⟩ : ∃ Y, key % 2 ^ L % 2 ^ (L - 2) = Y := ⟨_, rfl⟩
  have hY0 : L ≤ 2 → Y = 0 := fun h => by rw [← hY, show L - 2 = 0 by omega, Nat.pow_zero, Nat.mod_one]
  rw [hY] at hfr ⊢
  rw [hX] at hnb ⊢
  obtain ⟨S2, hS2⟩ : ∃ S2, strL (bitS L key) = S2 := ⟨_, rfl⟩
  obtain ⟨S3, hS3⟩ : ∃ S3, strL (bitS L key ++ [48, 48]) = S3 := ⟨_, rfl⟩
  obtain ⟨S4, hS4⟩ : ∃ S4, strL ((bitS L key ++ [48, 48]).take 2) = S4 := ⟨_, rfl⟩
  obtain ⟨S5, hS5⟩ : ∃ S5, strL ((bitS L key).drop 2) = S5 := ⟨_, rfl⟩
  have hS20 : L = 0 → S2 = ⟨#[]⟩ := fun h => by rw [← hS2, h]; rfl
  rw [hS3] at hcat hcz he2
  rw [hS2] at hcat hsl hrz hd2
  rw [hS4] at he2 hnb
  rw [hS5] at hd2 hnf
  have hRn : (R : Int) ≤ (n : Int) := by omega
  have hL64 : L ≤ 64 := by omega
  have hR64 : R ≤ 64 := by omega
  clear hX hY hbb hS2 hS3 hS4 hS5 hdr hs hk h0
  go_enter Tryz.func187, Tryz.ntmps187
  go_wp2_with fail
  refine (hbs.out _).mono ?_
  rintro e w1 ⟨rfl, hb1⟩
  have hz := hb1.size
  simp at hz
  have hr0 := pBlk_st _ _ _ _ _ (pBlk_made w #[.int .i64 0, .int .i64 0, .int .u64 0, .int .i64 0] 228) hb1
  have hB1 := ((Below.refl w.heap.size w).alloc (Nat.le_refl _) (.cells #[.int .i64 0, .int .i64 0, .int .u64 0, .int .i64 0] 228)).trans (hb1.mono (by simp))
  clear hbs hb1
  go_wp2_with fail
  go_loopg [8] R (fun g rv wr => ∃ i j : Nat, rv = .int .i64 (i : Nat) ∧ i + g = R ∧ wr = w1.drewN j)
  case atStart => exact ⟨0, 0, rfl, by omega, rfl⟩
  case round =>
    obtain ⟨i, j, rfl, hig, hwr⟩ := hrel
    by_cases hi : i < R
    · have hin : (i : Int) < (n : Int) := by omega
      have hinn : i < n := by omega
      have hgi : ∀ h : i < (strL s).size, (strL s)[i] = c0 := fun h => by rw [strL_get, r2 i hi]
      replace hwr := Lib.hid hwr
      go_wp2_with fail
      go_quiet (fail)
      have hw2 : wr.drewN nq = w1.drewN (j + nq) := by rw [hwr.out, World.drewN_drewN]
      go_wp2
      go_roundg (gk - 1)
      case measure => omega
      case rel => exact ⟨i + 1, j + nq, by simp, by omega, rfl⟩
    · have hiR : i = R := by omega
      subst hiR
      have hcase : (i < n ∧ (i : Int) < (n : Int) ∧ ∃ ci : UInt8, (∀ h : i < (strL s).size, (strL s)[i] = ci) ∧ ¬ ci.toNat = c0.toNat) ∨ (¬ (i : Int) < (n : Int) ∧ i = n) := by
        by_cases hin : i < n
        · refine .inl ⟨hin, by omega, s.getD i 0, fun h => by rw [strL_get], fun e => r3 hin (UInt8.toNat_inj.1 e)⟩
        · exact .inr ⟨by omega, by omega⟩
      replace hwr := Lib.hid hwr
      rcases hcase with ⟨hin, hinI, ci, hgi, hne⟩ | ⟨hinI, hin⟩
      · have hneI : ((ci.toNat : Int) == (c0.toNat : Int)) = false := by simp; omega
        go_wp2_with fail
        go_quiet (fail)
        have hB2 : Below w.heap.size w (wr.drewN nq) := by
          rw [hwr.out, World.drewN_drewN]
          exact hB1.trans ⟨rfl, rfl, rfl, Nat.le_refl _, fun _ _ => rfl⟩
        have hr2 : pBlk w.heap.size #[.int .i64 0, .int .i64 0, .int .u64 0, .int .i64 0] 228 (wr.drewN nq) := by
          rw [hwr.out, World.drewN_drewN]
          exact hr0
        obtain ⟨W2, hW2⟩ : ∃ W2, wr.drewN nq = W2 := ⟨_, rfl⟩
        rw [hW2] at hB2 hr2 ⊢
        clear hW2 hgi hwr hne
        by_cases hR1 : i + 1 < n
        · have hR1I : (i : Int) + 1 < (n : Int) := by omega
          have hex := hsl hR1
          clear hS20
          rcases hf with ⟨rfl, rfl⟩ | ⟨rfl, rfl⟩
          · 
            go_wp2_with fail
            clear hneI
            refine (hnb.out _).mono ?_
            rintro e w3 ⟨rfl, rfl⟩
            clear hsl hl0 hex hcat he2 hcz r2 r3 hc0 hg0 hsz h1R r1 hRn hr0 hB1 hin hinI hR1 hR1I hL hlen
            have zl := hr2.lt
            have hzz := hB2.size
            by_cases hL2 : 2 < L
            · have hL2I : (2 : Int) < (L : Int) := by omega
              have hfr2 := hfr (by omega)
              rw [hfr2] at hnf
              clear hfr hY0 hfr2
              go_wp2_with fail
              refine (hnf.out _).mono ?_
              rintro e w3 ⟨rfl, rfl⟩
              have hLw : (L : Int) - 2 = ((L - 2 : Nat) : Int) := by omega
              have hLb : L - 2 ≤ 62 := by omega
              have hr4 := pBlk_st _ _ _ _ _ hr2 ((Below.refl W2.heap.size W2).alloc (Nat.le_refl _) (.cells #[.int .i64 (-(i : Int)), .int .i64 (X : Nat), .int .u64 (Y : Nat), .int .i64 ((L - 2 : Nat) : Int)] 228))
              have hB4 := hB2.trans (((Below.refl W2.heap.size W2).alloc (Nat.le_refl _) (.cells #[.int .i64 (-(i : Int)), .int .i64 (X : Nat), .int .u64 (Y : Nat), .int .i64 ((L - 2 : Nat) : Int)] 228)).mono hB2.size)
              go_wp2_with (first | ((with_reducible show wpList _ _ _ (Oper.mk _ (Op.store 228 _ _) _ _ _ _ :: _) _ _); refine wpList_store_whole _ rfl 228 _ _ rfl w.heap.size #[.int .i64 (-(i : Int)), .int .i64 (X : Nat), .int .u64 (Y : Nat), .int .i64 ((L - 2 : Nat) : Int)] #[.int .i64 0, .int .i64 0, .int .u64 0, .int .i64 0] 228 rfl rfl hr4 fields_size rfl (by simp [Value.oneCell']) ?_; intro w3 hp3 hb3 hz3))
              replace hp3 : pBlk w.heap.size #[.int .i64 (-(i : Int)), .int .i64 (X : Nat), .int .u64 (Y : Nat), .int .i64 ((L - 2 : Nat) : Int)] 228 w3 := hp3
              have y0 : w3.cell? ⟨w.heap.size, 0, none⟩ = some (.int .i64 (-(i : Int))) := hp3.cell 0 _ rfl
              have y1 : w3.cell? ⟨w.heap.size, 1, none⟩ = some (.int .i64 (X : Nat)) := hp3.cell 1 _ rfl
              have y2 : w3.cell? ⟨w.heap.size, 2, none⟩ = some (.int .u64 (((Y : Nat) : Int))) := hp3.cell 2 _ rfl
              have y3 : w3.cell? ⟨w.heap.size, 3, none⟩ = some (.int .i64 (((L - 2 : Nat) : Int))) := hp3.cell 3 _ rfl
              refine bodyPost_ret (v := .tuple #[.agg #[.int .i64 (-(i : Int)), .int .i64 (X : Nat), .int .u64 (Y : Nat), .int .i64 ((L - 2 : Nat) : Int)], .bool true]) (by simp [results, Tryz.results187, go_sem, y0, y1, y2, y3]) rfl ⟨?_, hB4.trans hb3⟩
              rfl
            · have hL2I : ¬ (2 : Int) < (L : Int) := by omega
              have hY00 := hY0 (by omega)
              clear hfr hY0 hnf hd2
              have hLw : L - 2 = 0 := by omega
              have hr4 := pBlk_st _ _ _ _ _ hr2 ((Below.refl W2.heap.size W2).alloc (Nat.le_refl _) (.cells #[.int .i64 (-(i : Int)), .int .i64 (X : Nat), .int .u64 0, .int .i64 0] 228))
              have hB4 := hB2.trans (((Below.refl W2.heap.size W2).alloc (Nat.le_refl _) (.cells #[.int .i64 (-(i : Int)), .int .i64 (X : Nat), .int .u64 0, .int .i64 0] 228)).mono hB2.size)
              go_wp2_with (first | ((with_reducible show wpList _ _ _ (Oper.mk _ (Op.store 228 _ _) _ _ _ _ :: _) _ _); refine wpList_store_whole _ rfl 228 _ _ rfl w.heap.size #[.int .i64 (-(i : Int)), .int .i64 (X : Nat), .int .u64 0, .int .i64 0] #[.int .i64 0, .int .i64 0, .int .u64 0, .int .i64 0] 228 rfl rfl hr4 fields_size rfl (by simp [Value.oneCell']) ?_; intro w3 hp3 hb3 hz3))
              replace hp3 : pBlk w.heap.size #[.int .i64 (-(i : Int)), .int .i64 (X : Nat), .int .u64 0, .int .i64 0] 228 w3 := hp3
              have y0 : w3.cell? ⟨w.heap.size, 0, none⟩ = some (.int .i64 (-(i : Int))) := hp3.cell 0 _ rfl
              have y1 : w3.cell? ⟨w.heap.size, 1, none⟩ = some (.int .i64 (X : Nat)) := hp3.cell 1 _ rfl
              have y2 : w3.cell? ⟨w.heap.size, 2, none⟩ = some (.int .u64 ((0 : Int))) := hp3.cell 2 _ rfl
              have y3 : w3.cell? ⟨w.heap.size, 3, none⟩ = some (.int .i64 ((0 : Int))) := hp3.cell 3 _ rfl
              refine bodyPost_ret (v := .tuple #[.agg #[.int .i64 (-(i : Int)), .int .i64 (X : Nat), .int .u64 0, .int .i64 0], .bool true]) (by simp [results, Tryz.results187, go_sem, y0, y1, y2, y3]) rfl ⟨?_, hB4.trans hb3⟩
              rw [hY00, hLw]
              rfl
          · 
            go_wp2_with fail
            clear hneI
            refine (hnb.out _).mono ?_
            rintro e w3 ⟨rfl, rfl⟩
            clear hsl hl0 hex hcat he2 hcz r2 r3 hc0 hg0 hsz h1R r1 hRn hr0 hB1 hin hinI hR1 hR1I hL hlen
            have zl := hr2.lt
            have hzz := hB2.size
            by_cases hL2 : 2 < L
            · have hL2I : (2 : Int) < (L : Int) := by omega
              have hfr2 := hfr (by omega)
              rw [hfr2] at hnf
              clear hfr hY0 hfr2
              go_wp2_with fail
              refine (hnf.out _).mono ?_
              rintro e w3 ⟨rfl, rfl⟩
              have hLw : (L : Int) - 2 = ((L - 2 : Nat) : Int) := by omega
              have hLb : L - 2 ≤ 62 := by omega
              have hr4 := pBlk_st _ _ _ _ _ hr2 ((Below.refl W2.heap.size W2).alloc (Nat.le_refl _) (.cells #[.int .i64 ((i : Int) - 1), .int .i64 (X : Nat), .int .u64 (Y : Nat), .int .i64 ((L - 2 : Nat) : Int)] 228))
              have hB4 := hB2.trans (((Below.refl W2.heap.size W2).alloc (Nat.le_refl _) (.cells #[.int .i64 ((i : Int) - 1), .int .i64 (X : Nat), .int .u64 (Y : Nat), .int .i64 ((L - 2 : Nat) : Int)] 228)).mono hB2.size)
              go_wp2_with (first | ((with_reducible show wpList _ _ _ (Oper.mk _ (Op.store 228 _ _) _ _ _ _ :: _) _ _); refine wpList_store_whole _ rfl 228 _ _ rfl w.heap.size #[.int .i64 ((i : Int) - 1), .int .i64 (X : Nat), .int .u64 (Y : Nat), .int .i64 ((L - 2 : Nat) : Int)] #[.int .i64 0, .int .i64 0, .int .u64 0, .int .i64 0] 228 rfl rfl hr4 fields_size rfl (by simp [Value.oneCell']) ?_; intro w3 hp3 hb3 hz3))
              replace hp3 : pBlk w.heap.size #[.int .i64 ((i : Int) - 1), .int .i64 (X : Nat), .int .u64 (Y : Nat), .int .i64 ((L - 2 : Nat) : Int)] 228 w3 := hp3
              have y0 : w3.cell? ⟨w.heap.size, 0, none⟩ = some (.int .i64 ((i : Int) - 1)) := hp3.cell 0 _ rfl
              have y1 : w3.cell? ⟨w.heap.size, 1, none⟩ = some (.int .i64 (X : Nat)) := hp3.cell 1 _ rfl
              have y2 : w3.cell? ⟨w.heap.size, 2, none⟩ = some (.int .u64 (((Y : Nat) : Int))) := hp3.cell 2 _ rfl
              have y3 : w3.cell? ⟨w.heap.size, 3, none⟩ = some (.int .i64 (((L - 2 : Nat) : Int))) := hp3.cell 3 _ rfl
              refine bodyPost_ret (v := .tuple #[.agg #[.int .i64 ((i : Int) - 1), .int .i64 (X : Nat), .int .u64 (Y : Nat), .int .i64 ((L - 2 : Nat) : Int)], .bool true]) (by simp [results, Tryz.results187, go_sem, y0, y1, y2, y3]) rfl ⟨?_, hB4.trans hb3⟩
              rfl
            · have hL2I : ¬ (2 : Int) < (L : Int) := by omega
              have hY00 := hY0 (by omega)
              clear hfr hY0 hnf hd2
              have hLw : L - 2 = 0 := by omega
              have hr4 := pBlk_st _ _ _ _ _ hr2 ((Below.refl W2.heap.size W2).alloc (Nat.le_refl _) (.cells #[.int .i64 ((i : Int) - 1), .int .i64 (X : Nat), .int .u64 0, .int .i64 0] 228))
              have hB4 := hB2.trans (((Below.refl W2.heap.size W2).alloc (Nat.le_refl _) (.cells #[.int .i64 ((i : Int) - 1), .int .i64 (X : Nat), .int .u64 0, .int .i64 0] 228)).mono hB2.size)
              go_wp2_with (first | ((with_reducible show wpList _ _ _ (Oper.mk _ (Op.store 228 _ _) _ _ _ _ :: _) _ _); refine wpList_store_whole _ rfl 228 _ _ rfl w.heap.size #[.int .i64 ((i : Int) - 1), .int .i64 (X : Nat), .int .u64 0, .int .i64 0] #[.int .i64 0, .int .i64 0, .int .u64 0, .int .i64 0] 228 rfl rfl hr4 fields_size rfl (by simp [Value.oneCell']) ?_; intro w3 hp3 hb3 hz3))
              replace hp3 : pBlk w.heap.size #[.int .i64 ((i : Int) - 1), .int .i64 (X : Nat), .int .u64 0, .int .i64 0] 228 w3 := hp3
              have y0 : w3.cell? ⟨w.heap.size, 0, none⟩ = some (.int .i64 ((i : Int) - 1)) := hp3.cell 0 _ rfl
              have y1 : w3.cell? ⟨w.heap.size, 1, none⟩ = some (.int .i64 (X : Nat)) := hp3.cell 1 _ rfl
              have y2 : w3.cell? ⟨w.heap.size, 2, none⟩ = some (.int .u64 ((0 : Int))) := hp3.cell 2 _ rfl
              have y3 : w3.cell? ⟨w.heap.size, 3, none⟩ = some (.int .i64 ((0 : Int))) := hp3.cell 3 _ rfl
              refine bodyPost_ret (v := .tuple #[.agg #[.int .i64 ((i : Int) - 1), .int .i64 (X : Nat), .int .u64 0, .int .i64 0], .bool true]) (by simp [results, Tryz.results187, go_sem, y0, y1, y2, y3]) rfl ⟨?_, hB4.trans hb3⟩
              rw [hY00, hLw]
              rfl
        · have hR1I : ¬ (i : Int) + 1 < (n : Int) := by omega
          have hLz := hl0 hR1
          have hS2z := hS20 hLz
          have hex : True := trivial
          subst hS2z
          rcases hf with ⟨rfl, rfl⟩ | ⟨rfl, rfl⟩
          · 
            go_wp2_with fail
            clear hneI
            refine (hnb.out _).mono ?_
            rintro e w3 ⟨rfl, rfl⟩
            clear hsl hl0 hex hcat he2 hcz r2 r3 hc0 hg0 hsz h1R r1 hRn hr0 hB1 hin hinI hR1 hR1I hL hlen
            have zl := hr2.lt
            have hzz := hB2.size
            have hL2 : ¬ 2 < L := by omega
            · have hL2I : ¬ (2 : Int) < (L : Int) := by omega
              have hY00 := hY0 (by omega)
              clear hfr hY0 hnf hd2
              have hLw : L - 2 = 0 := by omega
              have hr4 := pBlk_st _ _ _ _ _ hr2 ((Below.refl W2.heap.size W2).alloc (Nat.le_refl _) (.cells #[.int .i64 (-(i : Int)), .int .i64 (X : Nat), .int .u64 0, .int .i64 0] 228))
              have hB4 := hB2.trans (((Below.refl W2.heap.size W2).alloc (Nat.le_refl _) (.cells #[.int .i64 (-(i : Int)), .int .i64 (X : Nat), .int .u64 0, .int .i64 0] 228)).mono hB2.size)
              go_wp2_with (first | ((with_reducible show wpList _ _ _ (Oper.mk _ (Op.store 228 _ _) _ _ _ _ :: _) _ _); refine wpList_store_whole _ rfl 228 _ _ rfl w.heap.size #[.int .i64 (-(i : Int)), .int .i64 (X : Nat), .int .u64 0, .int .i64 0] #[.int .i64 0, .int .i64 0, .int .u64 0, .int .i64 0] 228 rfl rfl hr4 fields_size rfl (by simp [Value.oneCell']) ?_; intro w3 hp3 hb3 hz3))
              replace hp3 : pBlk w.heap.size #[.int .i64 (-(i : Int)), .int .i64 (X : Nat), .int .u64 0, .int .i64 0] 228 w3 := hp3
              have y0 : w3.cell? ⟨w.heap.size, 0, none⟩ = some (.int .i64 (-(i : Int))) := hp3.cell 0 _ rfl
              have y1 : w3.cell? ⟨w.heap.size, 1, none⟩ = some (.int .i64 (X : Nat)) := hp3.cell 1 _ rfl
              have y2 : w3.cell? ⟨w.heap.size, 2, none⟩ = some (.int .u64 ((0 : Int))) := hp3.cell 2 _ rfl
              have y3 : w3.cell? ⟨w.heap.size, 3, none⟩ = some (.int .i64 ((0 : Int))) := hp3.cell 3 _ rfl
              refine bodyPost_ret (v := .tuple #[.agg #[.int .i64 (-(i : Int)), .int .i64 (X : Nat), .int .u64 0, .int .i64 0], .bool true]) (by simp [results, Tryz.results187, go_sem, y0, y1, y2, y3]) rfl ⟨?_, hB4.trans hb3⟩
              rw [hY00, hLw]
              rfl
          · 
            go_wp2_with fail
            clear hneI
            refine (hnb.out _).mono ?_
            rintro e w3 ⟨rfl, rfl⟩
            clear hsl hl0 hex hcat he2 hcz r2 r3 hc0 hg0 hsz h1R r1 hRn hr0 hB1 hin hinI hR1 hR1I hL hlen
            have zl := hr2.lt
            have hzz := hB2.size
            have hL2 : ¬ 2 < L := by omega
            · have hL2I : ¬ (2 : Int) < (L : Int) := by omega
              have hY00 := hY0 (by omega)
              clear hfr hY0 hnf hd2
              have hLw : L - 2 = 0 := by omega
              have hr4 := pBlk_st _ _ _ _ _ hr2 ((Below.refl W2.heap.size W2).alloc (Nat.le_refl _) (.cells #[.int .i64 ((i : Int) - 1), .int .i64 (X : Nat), .int .u64 0, .int .i64 0] 228))
              have hB4 := hB2.trans (((Below.refl W2.heap.size W2).alloc (Nat.le_refl _) (.cells #[.int .i64 ((i : Int) - 1), .int .i64 (X : Nat), .int .u64 0, .int .i64 0] 228)).mono hB2.size)
              go_wp2_with (first | ((with_reducible show wpList _ _ _ (Oper.mk _ (Op.store 228 _ _) _ _ _ _ :: _) _ _); refine wpList_store_whole _ rfl 228 _ _ rfl w.heap.size #[.int .i64 ((i : Int) - 1), .int .i64 (X : Nat), .int .u64 0, .int .i64 0] #[.int .i64 0, .int .i64 0, .int .u64 0, .int .i64 0] 228 rfl rfl hr4 fields_size rfl (by simp [Value.oneCell']) ?_; intro w3 hp3 hb3 hz3))
              replace hp3 : pBlk w.heap.size #[.int .i64 ((i : Int) - 1), .int .i64 (X : Nat), .int .u64 0, .int .i64 0] 228 w3 := hp3
              have y0 : w3.cell? ⟨w.heap.size, 0, none⟩ = some (.int .i64 ((i : Int) - 1)) := hp3.cell 0 _ rfl
              have y1 : w3.cell? ⟨w.heap.size, 1, none⟩ = some (.int .i64 (X : Nat)) := hp3.cell 1 _ rfl
              have y2 : w3.cell? ⟨w.heap.size, 2, none⟩ = some (.int .u64 ((0 : Int))) := hp3.cell 2 _ rfl
              have y3 : w3.cell? ⟨w.heap.size, 3, none⟩ = some (.int .i64 ((0 : Int))) := hp3.cell 3 _ rfl
              refine bodyPost_ret (v := .tuple #[.agg #[.int .i64 ((i : Int) - 1), .int .i64 (X : Nat), .int .u64 0, .int .i64 0], .bool true]) (by simp [results, Tryz.results187, go_sem, y0, y1, y2, y3]) rfl ⟨?_, hB4.trans hb3⟩
              rw [hY00, hLw]
              rfl
      · have hneI : True := trivial
        subst hin
        have hin : True := trivial
        go_wp2_with fail
        go_quiet (fail)
        have hB2 : Below w.heap.size w (wr.drewN nq) := by
          rw [hwr.out, World.drewN_drewN]
          exact hB1.trans ⟨rfl, rfl, rfl, Nat.le_refl _, fun _ _ => rfl⟩
        have hr2 : pBlk w.heap.size #[.int .i64 0, .int .i64 0, .int .u64 0, .int .i64 0] 228 (wr.drewN nq) := by
          rw [hwr.out, World.drewN_drewN]
          exact hr0
        obtain ⟨W2, hW2⟩ : ∃ W2, wr.drewN nq = W2 := ⟨_, rfl⟩
        rw [hW2] at hB2 hr2 ⊢
        clear hW2 hwr
        have hR1 : ¬ i + 1 < i := by omega
        · have hR1I : ¬ (i : Int) + 1 < (i : Int) := by omega
          have hLz := hl0 hR1
          have hS2z := hS20 hLz
          have hex : True := trivial
          subst hS2z
          rcases hf with ⟨rfl, rfl⟩ | ⟨rfl, rfl⟩
          · 
            go_wp2_with fail
            clear hneI
            refine (hnb.out _).mono ?_
            rintro e w3 ⟨rfl, rfl⟩
            clear hsl hl0 hex hcat he2 hcz r2 r3 hc0 hg0 hsz h1R r1 hRn hr0 hB1 hin hinI hR1 hR1I hL hlen
            have zl := hr2.lt
            have hzz := hB2.size
            have hL2 : ¬ 2 < L := by omega
            · have hL2I : ¬ (2 : Int) < (L : Int) := by omega
              have hY00 := hY0 (by omega)
              clear hfr hY0 hnf hd2
              have hLw : L - 2 = 0 := by omega
              have hr4 := pBlk_st _ _ _ _ _ hr2 ((Below.refl W2.heap.size W2).alloc (Nat.le_refl _) (.cells #[.int .i64 (-(i : Int)), .int .i64 (X : Nat), .int .u64 0, .int .i64 0] 228))
              have hB4 := hB2.trans (((Below.refl W2.heap.size W2).alloc (Nat.le_refl _) (.cells #[.int .i64 (-(i : Int)), .int .i64 (X : Nat), .int .u64 0, .int .i64 0] 228)).mono hB2.size)
              go_wp2_with (first | ((with_reducible show wpList _ _ _ (Oper.mk _ (Op.store 228 _ _) _ _ _ _ :: _) _ _); refine wpList_store_whole _ rfl 228 _ _ rfl w.heap.size #[.int .i64 (-(i : Int)), .int .i64 (X : Nat), .int .u64 0, .int .i64 0] #[.int .i64 0, .int .i64 0, .int .u64 0, .int .i64 0] 228 rfl rfl hr4 fields_size rfl (by simp [Value.oneCell']) ?_; intro w3 hp3 hb3 hz3))
              replace hp3 : pBlk w.heap.size #[.int .i64 (-(i : Int)), .int .i64 (X : Nat), .int .u64 0, .int .i64 0] 228 w3 := hp3
              have y0 : w3.cell? ⟨w.heap.size, 0, none⟩ = some (.int .i64 (-(i : Int))) := hp3.cell 0 _ rfl
              have y1 : w3.cell? ⟨w.heap.size, 1, none⟩ = some (.int .i64 (X : Nat)) := hp3.cell 1 _ rfl
              have y2 : w3.cell? ⟨w.heap.size, 2, none⟩ = some (.int .u64 ((0 : Int))) := hp3.cell 2 _ rfl
              have y3 : w3.cell? ⟨w.heap.size, 3, none⟩ = some (.int .i64 ((0 : Int))) := hp3.cell 3 _ rfl
              refine bodyPost_ret (v := .tuple #[.agg #[.int .i64 (-(i : Int)), .int .i64 (X : Nat), .int .u64 0, .int .i64 0], .bool true]) (by simp [results, Tryz.results187, go_sem, y0, y1, y2, y3]) rfl ⟨?_, hB4.trans hb3⟩
              rw [hY00, hLw]
              rfl
          · 
            go_wp2_with fail
            clear hneI
            refine (hnb.out _).mono ?_
            rintro e w3 ⟨rfl, rfl⟩
            clear hsl hl0 hex hcat he2 hcz r2 r3 hc0 hg0 hsz h1R r1 hRn hr0 hB1 hin hinI hR1 hR1I hL hlen
            have zl := hr2.lt
            have hzz := hB2.size
            have hL2 : ¬ 2 < L := by omega
            · have hL2I : ¬ (2 : Int) < (L : Int) := by omega
              have hY00 := hY0 (by omega)
              clear hfr hY0 hnf hd2
              have hLw : L - 2 = 0 := by omega
              have hr4 := pBlk_st _ _ _ _ _ hr2 ((Below.refl W2.heap.size W2).alloc (Nat.le_refl _) (.cells #[.int .i64 ((i : Int) - 1), .int .i64 (X : Nat), .int .u64 0, .int .i64 0] 228))
              have hB4 := hB2.trans (((Below.refl W2.heap.size W2).alloc (Nat.le_refl _) (.cells #[.int .i64 ((i : Int) - 1), .int .i64 (X : Nat), .int .u64 0, .int .i64 0] 228)).mono hB2.size)
              go_wp2_with (first | ((with_reducible show wpList _ _ _ (Oper.mk _ (Op.store 228 _ _) _ _ _ _ :: _) _ _); refine wpList_store_whole _ rfl 228 _ _ rfl w.heap.size #[.int .i64 ((i : Int) - 1), .int .i64 (X : Nat), .int .u64 0, .int .i64 0] #[.int .i64 0, .int .i64 0, .int .u64 0, .int .i64 0] 228 rfl rfl hr4 fields_size rfl (by simp [Value.oneCell']) ?_; intro w3 hp3 hb3 hz3))
              replace hp3 : pBlk w.heap.size #[.int .i64 ((i : Int) - 1), .int .i64 (X : Nat), .int .u64 0, .int .i64 0] 228 w3 := hp3
              have y0 : w3.cell? ⟨w.heap.size, 0, none⟩ = some (.int .i64 ((i : Int) - 1)) := hp3.cell 0 _ rfl
              have y1 : w3.cell? ⟨w.heap.size, 1, none⟩ = some (.int .i64 (X : Nat)) := hp3.cell 1 _ rfl
              have y2 : w3.cell? ⟨w.heap.size, 2, none⟩ = some (.int .u64 ((0 : Int))) := hp3.cell 2 _ rfl
              have y3 : w3.cell? ⟨w.heap.size, 3, none⟩ = some (.int .i64 ((0 : Int))) := hp3.cell 3 _ rfl
              refine bodyPost_ret (v := .tuple #[.agg #[.int .i64 ((i : Int) - 1), .int .i64 (X : Nat), .int .u64 0, .int .i64 0], .bool true]) (by simp [results, Tryz.results187, go_sem, y0, y1, y2, y3]) rfl ⟨?_, hB4.trans hb3⟩
              rw [hY00, hLw]
              rfl
end Go.Proofs.YtncfbleeidjflaaGreatDoor
namespace Go.Proofs.YtncfbleeidjflaaGreatDoor
open Go.RowKit Go.Cal
/-- A posit's fields, as the document tells them. -/
theorem rsplit5_any (n key : Nat) (hn : 2 ≤ n) (hn' : n ≤ 64) (h0 : 0 < key) (hk : key < 2 ^ n) (w : World) :
    Calls Tryz.prog 187 #[.int .i64 ((n : Int) + 1), .int .u64 (key : Nat)] w fun e w' => e = .returned (.tuple #[.agg #[.int .i64 (poR n key), .int .i64 (poE (poL n key) (key % 2 ^ poL n key) : Nat), .int .u64 (key % 2 ^ poL n key % 2 ^ (poL n key - 2) : Nat), .int .i64 (poL n key - 2 : Nat)], .bool true]) ∧ Below w.heap.size w w' := by
  by_cases hlow : key < 2 ^ (n - 1)
  · obtain ⟨a1, a2, a3, a4⟩ := run_zero (by omega) h0 hlow
    have hL : poL n key = n - (n - bl key) - 1 := by unfold poL; rw [if_pos hlow]; have := bl_iff.2 hk; omega
    have hR : poR n key = -((n - bl key : Nat) : Int) := by unfold poR; rw [if_pos hlow]; have := bl_iff.2 hk; omega
    have := rsplit5_go n key (n - bl key) (poL n key) (poR n key) hn hn' h0 hk a2 a3 hL (.inl ⟨a1, hR⟩) w
    exact this
  · obtain ⟨a1, a2, a3⟩ := run_ones (by omega) hk (by omega)
    have hb : bl (2 ^ n - 1 - key) ≤ n - 1 := bl_iff.2 (by
      have e : 2 ^ n = 2 ^ (n - 1) * 2 := by rw [← Nat.pow_succ]; congr 1; omega
      omega)
    have hL : poL n key = n - (n - bl (2 ^ n - 1 - key)) - 1 := by unfold poL; rw [if_neg hlow]; omega
    have hR : poR n key = ((n - bl (2 ^ n - 1 - key) : Nat) : Int) - 1 := by unfold poR; rw [if_neg hlow]; omega
    have := rsplit5_go n key (n - bl (2 ^ n - 1 - key)) (poL n key) (poR n key) hn hn' h0 hk a2 a3 hL (.inr ⟨a1, hR⟩) w
    exact this
set_option maxRecDepth 100000 in
set_option maxHeartbeats 4000000 in
theorem rval6_any (man bias key : Nat) (h1 : man ≤ 60) (hb : bias ≤ 2000) (hk : key < 18446744073709551616) (h2 : key / 2 ^ man ≤ 4095) (w : World) :
    Calls Tryz.prog 157 #[.int .i64 (man : Nat), .int .i64 (bias : Nat), .int .u64 (key : Nat)] w fun e w' => e = .returned (.tuple #[.int .u64 ((oddP 64 (miM man key) ((miE man key : Int) - bias - man)).1 : Nat), .int .i64 (oddP 64 (miM man key) ((miE man key : Int) - bias - man)).2]) ∧ Below w.heap.size w w' := by
  have hsp := Lib.hid (rsplit6_any man key h1 hk w)
  have hpw := Lib.hid fun w => rpow6_any man h1 w
  have hml : key % 2 ^ man < 2 ^ man := Nat.mod_lt _ (Nat.two_pow_pos man)
  have hp60 : 2 ^ man ≤ 1152921504606846976 := Nat.le_trans (Nat.pow_le_pow_right (by decide) h1) (by decide)
  obtain ⟨f, hf⟩ : ∃ f, key / 2 ^ man = f := ⟨_, rfl⟩
  obtain ⟨r, hr⟩ : ∃ r, key % 2 ^ man = r := ⟨_, rfl⟩
  have hM : miM man key = if f = 0 then r else 2 ^ man + r := by unfold miM; rw [hf, hr]
  have hE : (miE man key : Int) = if f = 0 then 1 else (f : Int) := by unfold miE; rw [hf]; split <;> omega
  rw [hM, hE]
  rw [hf, hr] at hsp
  rw [hf] at h2
  rw [hr] at hml
  obtain ⟨x, hx⟩ : ∃ x, 2 ^ man = x := ⟨_, rfl⟩
  rw [hx] at hpw hml hp60 ⊢
  clear hM hE hf hr hx
  by_cases hf0 : f = 0
  · subst hf0
    rw [if_pos rfl, if_pos rfl]
    by_cases hr0 : r = 0
    · subst hr0
      have hz : oddP 64 0 (1 - (bias : Int) - man) = (0, 0) := by unfold oddP; rw [if_pos rfl]
      rw [hz]
      go_enter Tryz.func157, Tryz.ntmps157
      go_wp2_with fail
      refine hsp.out.mono ?_
      rintro e w1 ⟨rfl, hb1⟩
      go_wp2
      go_ret2
      exact ⟨rfl, hb1⟩
    have h0 : 0 < r := by omega
    generalize r = m at hsp hml h0 hr0 ⊢
    obtain ⟨e, he⟩ : ∃ e, 1 - (bias : Int) - man = e := ⟨_, rfl⟩
    have heb : -100000 ≤ e ∧ e ≤ 100000 := by omega
    have hm : m < 18446744073709551616 := by omega
    have hm1 : ¬ (m : Int) = 0 := by omega
    rw [he]
    have hT : tzN 64 m ≤ 64 := tz_le
    have hend := tz_end (f := 64) h0 (by simpa using hm)
    have hgo := fun t (h : t < tzN 64 m) => (tz_go h).1
    obtain ⟨T, hTd⟩ : ∃ T, tzN 64 m = T := ⟨_, rfl⟩
    rw [hTd] at hT hend hgo
    have hP : oddP 64 m e = (m / 2 ^ T, e + T) := by unfold oddP; rw [if_neg (by omega), hTd]
    rw [hP]
    clear hTd hP
    go_enter Tryz.func157, Tryz.ntmps157
    go_wp2_with fail
    refine hsp.out.mono ?_
    rintro e' w1 ⟨rfl, hb1⟩
    go_wp2_with fail
    try rw [he]
    go_loopg [9, 10] T (fun g mv ev wr => ∃ t : Nat, mv = .int .u64 ((m / 2 ^ t : Nat) : Int) ∧ ev = .int .i64 (e + t) ∧ t + g = T ∧ wr = w1)
    case atStart => exact ⟨0, by simp, by simp, by omega, rfl⟩
    case round =>
      obtain ⟨t, rfl, rfl, htg, rfl⟩ := hrel
      by_cases ht : t < T
      · have h2 := hgo t ht
        obtain ⟨q, hq⟩ : ∃ q, m / 2 ^ t = q := ⟨_, rfl⟩
        have hq2 : m / 2 ^ (t + 1) = q / 2 := by rw [← hq, key_half]
        have hqb : q < 18446744073709551616 := by rw [← hq]; exact Nat.lt_of_le_of_lt (Nat.div_le_self _ _) hm
        rw [hq] at h2 ⊢
        have h2i : (q : Int) % 2 = 0 := by omega
        go_wp2_with fail
        go_roundg (gk - 1)
        case measure => omega
        case rel => exact ⟨t + 1, by rw [hq2]; simp, by simp; omega, by omega, rfl⟩
      · have hTt : t = T := by omega
        subst hTt
        obtain ⟨q, hq⟩ : ∃ q, m / 2 ^ t = q := ⟨_, rfl⟩
        have hqb : q < 18446744073709551616 := by rw [← hq]; exact Nat.lt_of_le_of_lt (Nat.div_le_self _ _) hm
        rw [hq] at hend ⊢
        have h2i : (q : Int) % 2 = 1 := by omega
        go_wp2
        go_ret2
        exact ⟨by simp [hq], hb1⟩
  · rw [if_neg hf0, if_neg hf0]
    obtain ⟨m, hmd⟩ : ∃ m, x + r = m := ⟨_, rfl⟩
    obtain ⟨e, he⟩ : ∃ e, (f : Int) - bias - man = e := ⟨_, rfl⟩
    have h0 : 0 < m := by omega
    have hm : m < 18446744073709551616 := by omega
    have heb : -100000 ≤ e ∧ e ≤ 100000 := by omega
    have hm1 : ¬ (m : Int) = 0 := by omega
    have hsum : (r : Int) + (x : Int) = (m : Int) := by omega
    have hfp : (0 : Int) < (f : Int) := by omega
    rw [he, hmd]
    have hT : tzN 64 m ≤ 64 := tz_le
    have hend := tz_end (f := 64) h0 (by simpa using hm)
    have hgo := fun t (h : t < tzN 64 m) => (tz_go h).1
    obtain ⟨T, hTd⟩ : ∃ T, tzN 64 m = T := ⟨_, rfl⟩
    rw [hTd] at hT hend hgo
    have hP : oddP 64 m e = (m / 2 ^ T, e + T) := by unfold oddP; rw [if_neg (by omega), hTd]
    rw [hP]
    clear hTd hP
    go_enter Tryz.func157, Tryz.ntmps157
    go_wp2_with fail
    refine hsp.out.mono ?_
    rintro e' w1 ⟨rfl, hb1⟩
    go_wp2_with fail
    refine (hpw.out _).mono ?_
    rintro e' w2 ⟨rfl, rfl⟩
    go_wp2_with fail
    try rw [he]
    try rw [hsum]
    go_loopg [9, 10] T (fun g mv ev wr => ∃ t : Nat, mv = .int .u64 ((m / 2 ^ t : Nat) : Int) ∧ ev = .int .i64 (e + t) ∧ t + g = T ∧ wr = w1)
    case atStart => exact ⟨0, by simp, by simp, by omega, rfl⟩
    case round =>
      obtain ⟨t, rfl, rfl, htg, rfl⟩ := hrel
      by_cases ht : t < T
      · have h2 := hgo t ht
        obtain ⟨q, hq⟩ : ∃ q, m / 2 ^ t = q := ⟨_, rfl⟩
        have hq2 : m / 2 ^ (t + 1) = q / 2 := by rw [← hq, key_half]
        have hqb : q < 18446744073709551616 := by rw [← hq]; exact Nat.lt_of_le_of_lt (Nat.div_le_self _ _) hm
        rw [hq] at h2 ⊢
        have h2i : (q : Int) % 2 = 0 := by omega
        go_wp2_with fail
        go_roundg (gk - 1)
        case measure => omega
        case rel => exact ⟨t + 1, by rw [hq2]; simp, by simp; omega, by omega, rfl⟩
      · have hTt : t = T := by omega
        subst hTt
        obtain ⟨q, hq⟩ : ∃ q, m / 2 ^ t = q := ⟨_, rfl⟩
        have hqb : q < 18446744073709551616 := by rw [← hq]; exact Nat.lt_of_le_of_lt (Nat.div_le_self _ _) hm
        rw [hq] at hend ⊢
        have h2i : (q : Int) % 2 = 1 := by omega
        go_wp2
        go_ret2
        exact ⟨by simp [hq], hb1⟩
end Go.Proofs.YtncfbleeidjflaaGreatDoor
namespace Go.Proofs.YtncfbleeidjflaaGreatDoor
open Go.RowKit Go.Cal
set_option maxRecDepth 100000 in
set_option maxHeartbeats 4000000 in
theorem rval5_any (n key : Nat) (hn : 2 ≤ n) (hn' : n ≤ 64) (h0 : 0 < key) (hk : key < 2 ^ n) (w : World) :
    Calls Tryz.prog 156 #[.int .i64 ((n : Int) + 1), .int .u64 (key : Nat)] w fun e w' => e = .returned (.tuple #[.int .u64 ((oddP 64 (poF (poL n key) (key % 2 ^ poL n key)) (4 * poR n key + poE (poL n key) (key % 2 ^ poL n key) - (poL n key - 2 : Nat))).1 : Nat), .int .i64 (oddP 64 (poF (poL n key) (key % 2 ^ poL n key)) (4 * poR n key + poE (poL n key) (key % 2 ^ poL n key) - (poL n key - 2 : Nat))).2, .bool true]) ∧ Below w.heap.size w w' := by
  have hsp := Lib.hid (rsplit5_any n key hn hn' h0 hk w)
  have hLn := poL_le hk
  have hRn := poR_ge hk
  have hX4 := poE_lt (Nat.mod_lt key (Nat.two_pow_pos (poL n key)))
  obtain ⟨R, hR⟩ : ∃ R, poR n key = R := ⟨_, rfl⟩
  obtain ⟨L, hL⟩ : ∃ L, poL n key = L := ⟨_, rfl⟩
  rw [hR] at hsp hRn ⊢
  rw [hL] at hsp hLn hX4 ⊢
  obtain ⟨X, hX⟩ : ∃ X, poE L (key % 2 ^ L) = X := ⟨_, rfl⟩
  rw [hX] at hsp hX4 ⊢
  have hF : poF L (key % 2 ^ L) = 2 ^ (L - 2) + key % 2 ^ L % 2 ^ (L - 2) := rfl
  have hYl : key % 2 ^ L % 2 ^ (L - 2) < 2 ^ (L - 2) := Nat.mod_lt _ (Nat.two_pow_pos _)
  obtain ⟨Y, hY⟩ : ∃ Y, key % 2 ^ L % 2 ^ (L - 2) = Y := ⟨_, rfl⟩
  rw [hY] at hsp hF hYl
  rw [hF]
  obtain ⟨B, hB⟩ : ∃ B, L - 2 = B := ⟨_, rfl⟩
  have hB62 : B ≤ 62 := by omega
  rw [hB] at hsp hYl ⊢
  have hp62 : 2 ^ B ≤ 4611686018427387904 := Nat.le_trans (Nat.pow_le_pow_right (by decide) hB62) (by decide)
  obtain ⟨one, hone⟩ : ∃ one, 2 ^ B = one := ⟨_, rfl⟩
  rw [hone] at hYl hp62 ⊢
  obtain ⟨e, he⟩ : ∃ e, 4 * R + (X : Int) - (B : Int) = e := ⟨_, rfl⟩
  have heb : -100000 ≤ e ∧ e ≤ 100000 := by omega
  obtain ⟨m, hmd⟩ : ∃ m, one + Y = m := ⟨_, rfl⟩
  have hm0 : 0 < m := by omega
  have hm : m < 18446744073709551616 := by omega
  have hsum : (Y : Int) + (one : Int) = (m : Int) := by omega
  rw [he, hmd]
  have hRb : -100 ≤ R ∧ R ≤ 100 := by omega
  clear hR hL hX hF hY hB hLn hRn h0 hk hn hn'
  have h0 : 0 < m := hm0
  have hT : tzN 64 m ≤ 64 := tz_le
  have hend := tz_end (f := 64) h0 (by simpa using hm)
  have hgo := fun t (h : t < tzN 64 m) => (tz_go h).1
  obtain ⟨T, hTd⟩ : ∃ T, tzN 64 m = T := ⟨_, rfl⟩
  rw [hTd] at hT hend hgo
  have hP : oddP 64 m e = (m / 2 ^ T, e + T) := by unfold oddP; rw [if_neg (by omega), hTd]
  rw [hP]
  clear hTd hP
  go_enter Tryz.func156, Tryz.ntmps156
  go_wp2_with fail
  refine hsp.out.mono ?_
  rintro e' w1 ⟨rfl, hb1⟩
  have hB1 := hb1.trans (((Below.refl w1.heap.size w1).alloc (Nat.le_refl _) (.cells #[.int .i64 R, .int .i64 (X : Nat), .int .u64 (Y : Nat), .int .i64 (B : Nat)] 228)).mono hb1.size)
  clear hsp hb1
  go_wp2_with fail
  go_loopg [10, 11] B (fun g ov iv wr => ∃ t : Nat, ov = .int .u64 ((2 ^ t : Nat) : Int) ∧ iv = .int .i64 (t : Nat) ∧ t + g = B ∧ wr = w1.alloc (.cells #[.int .i64 R, .int .i64 (X : Nat), .int .u64 (Y : Nat), .int .i64 (B : Nat)] 228))
  case atStart => exact ⟨0, by simp, rfl, by omega, rfl⟩
  case round =>
    obtain ⟨t, rfl, rfl, htg, rfl⟩ := hrel
    by_cases ht : t < B
    · obtain ⟨q, hq⟩ : ∃ q, 2 ^ t = q := ⟨_, rfl⟩
      have hq2 : 2 ^ (t + 1) = 2 * q := by rw [Nat.pow_succ, hq]; omega
      have hqb : q ≤ 4611686018427387904 := by rw [← hq]; exact Nat.le_trans (Nat.pow_le_pow_right (by decide) (show t ≤ 62 by omega)) (by decide)
      rw [hq]
      have hl : (t : Int) < (B : Int) := by omega
      go_wp2_with fail
      go_roundg (gk - 1)
      case measure => omega
      case rel => exact ⟨t + 1, by rw [hq2]; simp, by simp, by omega, rfl⟩
    · have htB : B = t := by omega
      subst htB
      rw [hone]
      clear hone
      have hl : ¬ (B : Int) < (B : Int) := by omega
      clear htg
      go_wp2_with fail
      try rw [he]
      try rw [hsum]
      go_loopg [9, 12] T (fun g mv ev wr => ∃ t : Nat, mv = .int .u64 ((m / 2 ^ t : Nat) : Int) ∧ ev = .int .i64 (e + t) ∧ t + g = T ∧ wr = w1.alloc (.cells #[.int .i64 R, .int .i64 (X : Nat), .int .u64 (Y : Nat), .int .i64 (B : Nat)] 228))
      case atStart => exact ⟨0, by simp, by simp, by omega, rfl⟩
      case round =>
        obtain ⟨t, rfl, rfl, htg, rfl⟩ := hrel
        by_cases ht : t < T
        · have h2 := hgo t ht
          obtain ⟨q, hq⟩ : ∃ q, m / 2 ^ t = q := ⟨_, rfl⟩
          have hq2 : m / 2 ^ (t + 1) = q / 2 := by rw [← hq, key_half]
          have hqb : q < 18446744073709551616 := by rw [← hq]; exact Nat.lt_of_le_of_lt (Nat.div_le_self _ _) hm
          rw [hq] at h2 ⊢
          have h2i : (q : Int) % 2 = 0 := by omega
          go_wp2_with fail
          go_roundg (gk - 1)
          case measure => omega
          case rel => exact ⟨t + 1, by rw [hq2]; simp, by simp; omega, by omega, rfl⟩
        · have hTt : t = T := by omega
          subst hTt
          obtain ⟨q, hq⟩ : ∃ q, m / 2 ^ t = q := ⟨_, rfl⟩
          have hqb : q < 18446744073709551616 := by rw [← hq]; exact Nat.lt_of_le_of_lt (Nat.div_le_self _ _) hm
          rw [hq] at hend ⊢
          have h2i : (q : Int) % 2 = 1 := by omega
          go_wp2
          refine bodyPost_ret (v := .tuple #[.int .u64 (q : Nat), .int .i64 (e + t), .bool true]) (by simp [results, Tryz.results156, go_sem]) rfl ⟨by simp [hq], hB1⟩
end Go.Proofs.YtncfbleeidjflaaGreatDoor
