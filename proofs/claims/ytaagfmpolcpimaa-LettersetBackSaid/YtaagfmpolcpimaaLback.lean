/-
  LettersetBack: the law's walk: it returns true and writes nothing that was there. Conditions: words of 64 bits, bytes below 256, a text that fits memory.
-/
import Derived.Test.YtaagfmpolcpimaaLparses
import Derived.Test.YtaagfmpolcpimaaBk
import Derived.Test.YtaagfmpolcpimaaWg
namespace Go.Proofs.Ytaagfmpolcpimaa
open Go.RowKit
attribute [local go_sem] OneStep growAt growUpon
set_option maxHeartbeats 4000000
set_option maxRecDepth 100000
set_option linter.unusedSimpArgs false
set_option linter.unusedVariables false

theorem fmt_len (s : Nat → Bool) : ∀ (n k : Nat), 256 - k = n → (fmt s k).length ≤ 9 * n := by
  intro n
  induction n using Nat.strongRecOn with
  | _ n ih =>
    intro k hn
    by_cases hk : k < 256
    · cases hs : s k with
      | false => rw [fmt_no s k hk hs]; have := ih (256 - (k + 1)) (by omega) (k + 1) rfl; omega
      | true =>
        rw [fmt_yes s k hk hs]
        have h1 := top_ge s k
        have h2 := piece_len k (top s k)
        have := ih (256 - (top s k + 1)) (by omega) (top s k + 1) rfl
        simp; omega
    · rw [fmt_end s k (by omega)]; simp
theorem fmt_short (s : Nat → Bool) : (fmt s 0).length ≤ 2304 := fmt_len s 256 0 rfl
theorem fmt_orW {u s v : Nat → Nat} (hv : ∀ b, b < 256 → bit v b = bit (orW u s) b) : fmt (bit (orW s u)) 0 = fmt (bit v) 0 :=
  fmt_congr (fun i hi => by rw [hv i hi, bit_orW, bit_orW, Bool.or_comm]) 0

theorem back_walk (s : Nat → Nat) (hs : W64 s) (L : List Nat) (hl : ∀ x ∈ L, x < 256) (hL : L.length ≤ 900000000000000) (w : World) : Calls Try.prog 10 #[.agg (AV s), .string (strB L)] w fun e w' => e = .returned (.bool true) ∧ Below w.heap.size w w' := by
  obtain ⟨t, ht1, ht2⟩ := prs_back hs
  have HT1 := Lib.hid ht1; have HT2 := Lib.hid ht2; have HL := Lib.hid hl
  have hF1 := fmt_short (bit s)
  have HF2 := Lib.hid (fmt_lt (bit s) 0)
  clear ht1 ht2 hl
  go_enter Try.func10, Try.ntmps10
  go_wp2_with (first | (refine wpList_load_row rfl 24 _ rfl _ rfl _ _ _ _ (heap_at _ _ _ rfl) Try.underlying24 rfl (i24 _) ?_; simp only [Act.put, List.setIfInBounds_toArray, List.set_cons_zero, List.set_cons_succ]) | fail)
  obtain ⟨BS, hBS⟩ : ∃ BS, BS = w.heap.size := ⟨_, rfl⟩
  have HS := Lib.hid (heap_at w (.cells (AV s) 24) BS hBS)
  have HE := Lib.hid (grew_alloc w (.cells (AV s) 24))
  rw [← hBS]
  generalize w.alloc (.cells (AV s) 24) = w1 at HS HE ⊢
  clear hBS
  refine (format_c s hs _).mono ?_
  rintro e w2 ⟨rfl, hbw2⟩
  have HS := Lib.hid (block_below' hbw2 HS.out)
  have HE := Lib.hid (HE.out.trans hbw2)
  clear hbw2
  go_wp2_with fail
  refine (parse_c (fmt (bit s) 0) HF2.out (by omega) _).mono ?_
  rw [HT1.out]
  rintro e w3 ⟨rfl, hbw3⟩
  have HS := Lib.hid (block_below' hbw3 HS.out)
  have HE := Lib.hid (HE.out.trans hbw3)
  clear hbw3
  simp only [prsV]
  have heq := fun w => eq_AV_true HT2.out w
  go_wp2_with (first | (refine wpList_alloc_row rfl 24 rfl _ z24 ?_; simp only [Act.put, List.setIfInBounds_toArray, List.set_cons_zero, List.set_cons_succ]) | (refine wpList_store_row rfl 24 _ _ rfl _ rfl _ rfl _ _ (heap_at _ _ _ rfl) (i24 _) (by simp only [AV_size]) (AV_one _) ?_; rw [setRow_alloc _ _ _ _ _ rfl]; simp only [Act.put, List.setIfInBounds_toArray, List.set_cons_zero, List.set_cons_succ]) | (refine wpList_load_row_g (by rfl) 24 _ rfl _ rfl _ _ _ _ (heap_at _ _ _ rfl) Try.underlying24 rfl (i24 _) ?_; simp only [Act.put, List.setIfInBounds_toArray, List.set_cons_zero, List.set_cons_succ]) | (refine wpList_load_row_g (by rfl) 24 _ rfl _ rfl _ _ _ _ ((heap_past _ _ _ (lt_of_block HS.out)).trans HS.out) Try.underlying24 rfl (i24 _) ?_; simp only [Act.put, List.setIfInBounds_toArray, List.set_cons_zero, List.set_cons_succ]) | fail)
  clear heq
  obtain ⟨B0, hB0⟩ : ∃ B0, B0 = w3.heap.size := ⟨_, rfl⟩
  have H0 := Lib.hid (heap_at w3 (.cells (AV t) 24) B0 hB0)
  have HS := Lib.hid (block_below' (grew_alloc w3 (.cells (AV t) 24)) HS.out)
  have HE := Lib.hid (HE.out.trans (grew_alloc w3 (.cells (AV t) 24)))
  rw [← hB0]
  generalize w3.alloc (.cells (AV t) 24) = w4 at H0 HS HE ⊢
  clear hB0
  refine (alive_c _).mono ?_
  rintro e w5 ⟨rfl, hbw5⟩
  have HS := Lib.hid (block_below' hbw5 HS.out)
  have HE := Lib.hid (HE.out.trans hbw5)
  clear hbw5
  go_wp2_with fail
  obtain ⟨E, hEE⟩ : ∃ E, E = prs L fun _ => 0 := ⟨_, rfl⟩
  cases E with
  | none =>
    have HN := Lib.hid hEE
    clear hEE
    refine (parse_c L HL.out (by omega) _).mono ?_
    rw [← HN.out]
    rintro e w6 ⟨rfl, hbw6⟩
    have HS := Lib.hid (block_below' hbw6 HS.out)
    have HE := Lib.hid (HE.out.trans hbw6)
    clear hbw6
    simp only [prsV]
    go_wp2_with (first | (refine wpList_alloc_row rfl 24 rfl _ z24 ?_; simp only [Act.put, List.setIfInBounds_toArray, List.set_cons_zero, List.set_cons_succ]) | (refine wpList_store_row rfl 24 _ _ rfl _ rfl _ rfl _ _ (heap_at _ _ _ rfl) (i24 _) (by simp only [AV_size]) (AV_one _) ?_; rw [setRow_alloc _ _ _ _ _ rfl]; simp only [Act.put, List.setIfInBounds_toArray, List.set_cons_zero, List.set_cons_succ]) | fail)
    go_ret
    exact ⟨rfl, HE.out.trans (grew_alloc _ _)⟩
  | some u =>
    have HU : Hid (W64 u) := Lib.hid (prs_W64 L.length L _ (Nat.le_refl _) W64_zero u hEE.symm)
    obtain ⟨v, hv1, hv2, hv3⟩ := prs_both hs HU.out hEE.symm
    have HVP := Lib.hid hv1; have HVW := Lib.hid hv2; have HV := Lib.hid hv3
    have HF : Hid (fmt (bit (orW s u)) 0 = fmt (bit v) 0) := Lib.hid (fmt_orW ((eqS_iff hv2 (orW_W64 HU.out hs)).1 hv3))
    have HN := Lib.hid hEE
    clear hEE hv1 hv2 hv3
    refine (parse_c L HL.out (by omega) _).mono ?_
    rw [← HN.out]
    rintro e w6 ⟨rfl, hbw6⟩
    have HS := Lib.hid (block_below' hbw6 HS.out)
    have HE := Lib.hid (HE.out.trans hbw6)
    clear hbw6
    simp only [prsV]
    go_wp2_with (first | (refine wpList_alloc_row rfl 24 rfl _ z24 ?_; simp only [Act.put, List.setIfInBounds_toArray, List.set_cons_zero, List.set_cons_succ]) | (refine wpList_store_row rfl 24 _ _ rfl _ rfl _ rfl _ _ (heap_at _ _ _ rfl) (i24 _) (by simp only [AV_size]) (AV_one _) ?_; rw [setRow_alloc _ _ _ _ _ rfl]; simp only [Act.put, List.setIfInBounds_toArray, List.set_cons_zero, List.set_cons_succ]) | (refine wpList_load_row rfl 24 _ rfl _ rfl _ _ _ _ ((heap_past _ _ _ (lt_of_block HS.out)).trans HS.out) Try.underlying24 rfl (i24 _) ?_; simp only [Act.put, List.setIfInBounds_toArray, List.set_cons_zero, List.set_cons_succ]) | fail)
    obtain ⟨B1, hB1⟩ : ∃ B1, B1 = w6.heap.size := ⟨_, rfl⟩
    have H1 := Lib.hid (heap_at w6 (.cells (AV u) 24) B1 hB1)
    have HS := Lib.hid (block_below' (grew_alloc w6 (.cells (AV u) 24)) HS.out)
    have HE := Lib.hid (HE.out.trans (grew_alloc w6 (.cells (AV u) 24)))
    rw [← hB1]
    generalize w6.alloc (.cells (AV u) 24) = w7 at H1 HS HE ⊢
    clear hB1
    refine (format_c s hs _).mono ?_
    rintro e w8 ⟨rfl, hbw8⟩
    have HS := Lib.hid (block_below' hbw8 HS.out)
    have H1 := Lib.hid (block_below' hbw8 H1.out)
    have HE := Lib.hid (HE.out.trans hbw8)
    clear hbw8
    go_wp2_with (first | (refine wpList_concat rfl 9 9 _ _ rfl L (fmt (bit s) 0) rfl rfl (by omega) ?_; simp only [Act.put, List.setIfInBounds_toArray, List.set_cons_zero, List.set_cons_succ]) | fail)
    refine (parse_c (L ++ fmt (bit s) 0) (fun x hx => (List.mem_append.1 hx).elim (HL.out x) (HF2.out x)) (by rw [List.length_append]; omega) _).mono ?_
    rw [HVP.out]
    rintro e w9 ⟨rfl, hbw9⟩
    have HS := Lib.hid (block_below' hbw9 HS.out)
    have H1 := Lib.hid (block_below' hbw9 H1.out)
    have HE := Lib.hid (HE.out.trans hbw9)
    clear hbw9
    simp only [prsV]
    go_wp2_with (first | (refine wpList_alloc_row rfl 24 rfl _ z24 ?_; simp only [Act.put, List.setIfInBounds_toArray, List.set_cons_zero, List.set_cons_succ]) | (refine wpList_store_row rfl 24 _ _ rfl _ rfl _ rfl _ _ (heap_at _ _ _ rfl) (i24 _) (by simp only [AV_size]) (AV_one _) ?_; rw [setRow_alloc _ _ _ _ _ rfl]; simp only [Act.put, List.setIfInBounds_toArray, List.set_cons_zero, List.set_cons_succ]) | fail)
    obtain ⟨B2, hB2⟩ : ∃ B2, B2 = w9.heap.size := ⟨_, rfl⟩
    have H2 := Lib.hid (heap_at w9 (.cells (AV v) 24) B2 hB2)
    have HS := Lib.hid (block_below' (grew_alloc w9 (.cells (AV v) 24)) HS.out)
    have H1 := Lib.hid (block_below' (grew_alloc w9 (.cells (AV v) 24)) H1.out)
    have HE := Lib.hid (HE.out.trans (grew_alloc w9 (.cells (AV v) 24)))
    rw [← hB2]
    generalize w9.alloc (.cells (AV v) 24) = w10 at H2 HS H1 HE ⊢
    clear hB2
    refine wp_region_grows 19 [IsV (.nilIface), IsV (.bool true), IsV (.bool true), IsV (.agg (AV v)), IsV (.agg (AV u)), IsV (.agg (AV s)), IsV (.agg (AV (orW u s))), IsV (.bool true), IsV (.bool true), IsV (.bool true), IsV (.agg (AV v)), IsV (.string (strB (fmt (bit v) 0))), IsV (.agg (AV s)), IsV (.agg (AV u)), IsV (.agg (AV (orW s u))), IsV (.string (strB (fmt (bit v) 0))), IsV (.bool true), IsV (.bool true), IsV (.bool true)] []
      [[], [(0, 41)], [(1, 42)], [(2, 43)], [(2, 43)], [(2, 43)], [(2, 43), (4, 45), (5, 46)], [(2, 43), (3, 44), (6, 47)], [(2, 43), (7, 48)], [(8, 49)], [(9, 50)], [(9, 50), (10, 51)], [(9, 50)], [(9, 50)], [(9, 50), (12, 53), (13, 54)], [(9, 50), (14, 55)], [(9, 50), (11, 52), (15, 56)], [(9, 50), (16, 57)], [(17, 58)]] [(0, 41), (1, 42), (2, 43), (3, 44), (4, 45), (5, 46), (6, 47), (7, 48), (8, 49), (9, 50), (10, 51), (11, 52), (12, 53), (13, 54), (14, 55), (15, 56), (16, 57), (17, 58), (18, 4)] (by kernel_rfl) (by kernel_rfl) rfl ?stable ⟨?o0, ?o1, ?o2, ?o3, ?o4, ?o5, ?o6, ?o7, ?o8, ?o9, ?o10, ?o11, ?o12, ?o13, ?o14, ?o15, ?o16, ?o17, ?o18, trivial⟩ ?fin
    case stable => exact ⟨IsV.stable _, IsV.stable _, IsV.stable _, IsV.stable _, IsV.stable _, IsV.stable _, IsV.stable _, IsV.stable _, IsV.stable _, IsV.stable _, IsV.stable _, IsV.stable _, IsV.stable _, IsV.stable _, IsV.stable _, IsV.stable _, IsV.stable _, IsV.stable _, IsV.stable _, trivial⟩
    case o0 =>
      intro vals w' hg hd
      clear hd
      simp only [putS, List.foldl_nil]
      clear hg
      go_simp
      try go_bits
      exact isV_mk _ _
    case o1 =>
      intro vals w' hg hd
      have h0 : vals 0 = .nilIface := hd.1
      clear hd
      simp only [putS, List.foldl_nil, List.foldl_cons, Act.put, List.setIfInBounds_toArray, List.set_cons_zero, List.set_cons_succ, h0]
      clear hg h0
      go_simp
      try go_bits
      exact isV_mk _ _
    case o2 =>
      intro vals w' hg hd
      have h1 : vals 1 = .bool true := hd.1
      clear hd
      simp only [putS, List.foldl_nil, List.foldl_cons, Act.put, List.setIfInBounds_toArray, List.set_cons_zero, List.set_cons_succ, h1]
      clear hg h1
      go_simp
      try go_bits
      exact isV_mk _ _
    case o3 =>
      intro vals w' hg hd
      have h2 : vals 2 = .bool true := hd.1
      clear hd
      simp only [putS, List.foldl_nil, List.foldl_cons, Act.put, List.setIfInBounds_toArray, List.set_cons_zero, List.set_cons_succ, h2]
      exact one_load_row (by rfl) _ _ rfl _ rfl _ _ _ _ (block_below' hg H2.out) Try.underlying24 rfl (i24 _) (isV_mk _ _)
    case o4 =>
      intro vals w' hg hd
      have h2 : vals 2 = .bool true := hd.1
      clear hd
      simp only [putS, List.foldl_nil, List.foldl_cons, Act.put, List.setIfInBounds_toArray, List.set_cons_zero, List.set_cons_succ, h2]
      exact one_load_row (by rfl) _ _ rfl _ rfl _ _ _ _ (block_below' hg H1.out) Try.underlying24 rfl (i24 _) (isV_mk _ _)
    case o5 =>
      intro vals w' hg hd
      have h2 : vals 2 = .bool true := hd.1
      clear hd
      simp only [putS, List.foldl_nil, List.foldl_cons, Act.put, List.setIfInBounds_toArray, List.set_cons_zero, List.set_cons_succ, h2]
      exact one_load_row (by rfl) _ _ rfl _ rfl _ _ _ _ (block_below' hg HS.out) Try.underlying24 rfl (i24 _) (isV_mk _ _)
    case o6 =>
      intro vals w' hg hd
      have h2 : vals 2 = .bool true := hd.1
      have h4 : vals 4 = .agg (AV u) := hd.2.1
      have h5 : vals 5 = .agg (AV s) := hd.2.2.1
      clear hd
      simp only [putS, List.foldl_nil, List.foldl_cons, Act.put, List.setIfInBounds_toArray, List.set_cons_zero, List.set_cons_succ, h2, h4, h5]
      clear hg h2 h4 h5
      go_simp
      exact (union_c u s HU.out hs w').mono fun e w2 ⟨he, hb⟩ => ⟨_, he, hb, isV_mk _ _⟩
    case o7 =>
      intro vals w' hg hd
      have h2 : vals 2 = .bool true := hd.1
      have h3 : vals 3 = .agg (AV v) := hd.2.1
      have h6 : vals 6 = .agg (AV (orW u s)) := hd.2.2.1
      clear hd
      simp only [putS, List.foldl_nil, List.foldl_cons, Act.put, List.setIfInBounds_toArray, List.set_cons_zero, List.set_cons_succ, h2, h3, h6]
      have heq0 := fun w => eq_AV_true HV.out w
      clear hg h2 h3 h6
      go_simp
      exact isV_mk _ _
    case o8 =>
      intro vals w' hg hd
      have h2 : vals 2 = .bool true := hd.1
      have h7 : vals 7 = .bool true := hd.2.1
      clear hd
      simp only [putS, List.foldl_nil, List.foldl_cons, Act.put, List.setIfInBounds_toArray, List.set_cons_zero, List.set_cons_succ, h2, h7]
      clear hg h2 h7
      go_simp
      try go_bits
      exact isV_mk _ _
    case o9 =>
      intro vals w' hg hd
      have h8 : vals 8 = .bool true := hd.1
      clear hd
      simp only [putS, List.foldl_nil, List.foldl_cons, Act.put, List.setIfInBounds_toArray, List.set_cons_zero, List.set_cons_succ, h8]
      clear hg h8
      go_simp
      try go_bits
      exact isV_mk _ _
    case o10 =>
      intro vals w' hg hd
      have h9 : vals 9 = .bool true := hd.1
      clear hd
      simp only [putS, List.foldl_nil, List.foldl_cons, Act.put, List.setIfInBounds_toArray, List.set_cons_zero, List.set_cons_succ, h9]
      exact one_load_row (by rfl) _ _ rfl _ rfl _ _ _ _ (block_below' hg H2.out) Try.underlying24 rfl (i24 _) (isV_mk _ _)
    case o11 =>
      intro vals w' hg hd
      have h9 : vals 9 = .bool true := hd.1
      have h10 : vals 10 = .agg (AV v) := hd.2.1
      clear hd
      simp only [putS, List.foldl_nil, List.foldl_cons, Act.put, List.setIfInBounds_toArray, List.set_cons_zero, List.set_cons_succ, h9, h10]
      clear hg h9 h10
      go_simp
      exact (format_c v HVW.out w').mono fun e w2 ⟨he, hb⟩ => ⟨_, he, hb, isV_mk _ _⟩
    case o12 =>
      intro vals w' hg hd
      have h9 : vals 9 = .bool true := hd.1
      clear hd
      simp only [putS, List.foldl_nil, List.foldl_cons, Act.put, List.setIfInBounds_toArray, List.set_cons_zero, List.set_cons_succ, h9]
      exact one_load_row (by rfl) _ _ rfl _ rfl _ _ _ _ (block_below' hg HS.out) Try.underlying24 rfl (i24 _) (isV_mk _ _)
    case o13 =>
      intro vals w' hg hd
      have h9 : vals 9 = .bool true := hd.1
      clear hd
      simp only [putS, List.foldl_nil, List.foldl_cons, Act.put, List.setIfInBounds_toArray, List.set_cons_zero, List.set_cons_succ, h9]
      exact one_load_row (by rfl) _ _ rfl _ rfl _ _ _ _ (block_below' hg H1.out) Try.underlying24 rfl (i24 _) (isV_mk _ _)
    case o14 =>
      intro vals w' hg hd
      have h9 : vals 9 = .bool true := hd.1
      have h12 : vals 12 = .agg (AV s) := hd.2.1
      have h13 : vals 13 = .agg (AV u) := hd.2.2.1
      clear hd
      simp only [putS, List.foldl_nil, List.foldl_cons, Act.put, List.setIfInBounds_toArray, List.set_cons_zero, List.set_cons_succ, h9, h12, h13]
      clear hg h9 h12 h13
      go_simp
      exact (union_c s u hs HU.out w').mono fun e w2 ⟨he, hb⟩ => ⟨_, he, hb, isV_mk _ _⟩
    case o15 =>
      intro vals w' hg hd
      have h9 : vals 9 = .bool true := hd.1
      have h14 : vals 14 = .agg (AV (orW s u)) := hd.2.1
      clear hd
      simp only [putS, List.foldl_nil, List.foldl_cons, Act.put, List.setIfInBounds_toArray, List.set_cons_zero, List.set_cons_succ, h9, h14]
      clear hg h9 h14
      go_simp
      exact (format_c (orW s u) (orW_W64 hs HU.out) w').mono fun e w2 ⟨he, hb⟩ => ⟨_, he, hb, congrArg (fun l => Value.string (strB l)) HF.out⟩
    case o16 =>
      intro vals w' hg hd
      have h9 : vals 9 = .bool true := hd.1
      have h11 : vals 11 = .string (strB (fmt (bit v) 0)) := hd.2.1
      have h15 : vals 15 = .string (strB (fmt (bit v) 0)) := hd.2.2.1
      clear hd
      simp only [putS, List.foldl_nil, List.foldl_cons, Act.put, List.setIfInBounds_toArray, List.set_cons_zero, List.set_cons_succ, h9, h11, h15]
      clear hg h9 h11 h15
      go_simp
      try go_bits
      exact isV_mk _ _
    case o17 =>
      intro vals w' hg hd
      have h9 : vals 9 = .bool true := hd.1
      have h16 : vals 16 = .bool true := hd.2.1
      clear hd
      simp only [putS, List.foldl_nil, List.foldl_cons, Act.put, List.setIfInBounds_toArray, List.set_cons_zero, List.set_cons_succ, h9, h16]
      clear hg h9 h16
      go_simp
      try go_bits
      exact isV_mk _ _
    case o18 =>
      intro vals w' hg hd
      have h17 : vals 17 = .bool true := hd.1
      clear hd
      simp only [putS, List.foldl_nil, List.foldl_cons, Act.put, List.setIfInBounds_toArray, List.set_cons_zero, List.set_cons_succ, h17]
      clear hg h17
      go_simp
      try go_bits
      exact isV_mk _ _
    case fin =>
      intro vals w' hg hd hfresh
      have h0 : vals 0 = .nilIface := hd.1
      have h1 : vals 1 = .bool true := hd.2.1
      have h2 : vals 2 = .bool true := hd.2.2.1
      have h3 : vals 3 = .agg (AV v) := hd.2.2.2.1
      have h4 : vals 4 = .agg (AV u) := hd.2.2.2.2.1
      have h5 : vals 5 = .agg (AV s) := hd.2.2.2.2.2.1
      have h6 : vals 6 = .agg (AV (orW u s)) := hd.2.2.2.2.2.2.1
      have h7 : vals 7 = .bool true := hd.2.2.2.2.2.2.2.1
      have h8 : vals 8 = .bool true := hd.2.2.2.2.2.2.2.2.1
      have h9 : vals 9 = .bool true := hd.2.2.2.2.2.2.2.2.2.1
      have h10 : vals 10 = .agg (AV v) := hd.2.2.2.2.2.2.2.2.2.2.1
      have h11 : vals 11 = .string (strB (fmt (bit v) 0)) := hd.2.2.2.2.2.2.2.2.2.2.2.1
      have h12 : vals 12 = .agg (AV s) := hd.2.2.2.2.2.2.2.2.2.2.2.2.1
      have h13 : vals 13 = .agg (AV u) := hd.2.2.2.2.2.2.2.2.2.2.2.2.2.1
      have h14 : vals 14 = .agg (AV (orW s u)) := hd.2.2.2.2.2.2.2.2.2.2.2.2.2.2.1
      have h15 : vals 15 = .string (strB (fmt (bit v) 0)) := hd.2.2.2.2.2.2.2.2.2.2.2.2.2.2.2.1
      have h16 : vals 16 = .bool true := hd.2.2.2.2.2.2.2.2.2.2.2.2.2.2.2.2.1
      have h17 : vals 17 = .bool true := hd.2.2.2.2.2.2.2.2.2.2.2.2.2.2.2.2.2.1
      have h18 : vals 18 = .bool true := hd.2.2.2.2.2.2.2.2.2.2.2.2.2.2.2.2.2.2.1
      clear hd
      simp only [putS, List.foldl_nil, List.foldl_cons, Act.put, List.setIfInBounds_toArray, List.set_cons_zero, List.set_cons_succ, List.drop_succ_cons, List.drop_zero, h0, h1, h2, h3, h4, h5, h6, h7, h8, h9, h10, h11, h12, h13, h14, h15, h16, h17, h18]
      have HEnd := Lib.hid (HE.out.trans hg)
      clear hg hfresh h0 h1 h2 h3 h4 h5 h6 h7 h8 h9 h10 h11 h12 h13 h14 h15 h16 h17 h18
      go_wp2
      go_ret
      exact ⟨rfl, HEnd.out⟩
end Go.Proofs.Ytaagfmpolcpimaa
