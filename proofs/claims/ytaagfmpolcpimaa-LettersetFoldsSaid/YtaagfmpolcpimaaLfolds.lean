/-
  LettersetFolds: the law's walk: it returns true and writes nothing that was there. Conditions: words of 64 bits.
-/
import Derived.Test.YtaagfmpolcpimaaWe
import Derived.Test.YtaagfmpolcpimaaEq
namespace Go.Proofs.Ytaagfmpolcpimaa
open Go.RowKit
attribute [local go_sem] OneStep growAt growUpon
set_option maxHeartbeats 4000000
set_option maxRecDepth 100000
set_option linter.unusedSimpArgs false
set_option linter.unusedVariables false

theorem rfold_twice (m : Nat → Bool) (j : Nat) : rfold (rfold m 123) 123 j = rfold m 123 j := by
  by_cases h1 : 97 ≤ j ∧ j < 123
  · have a1 : ¬ (65 ≤ j ∧ j + 32 < 123) := by omega
    have b1 : ¬ (97 ≤ j - 32 ∧ j - 32 < 123) := by omega
    have b2 : 65 ≤ j - 32 ∧ j - 32 + 32 < 123 := by omega
    have b3 : j - 32 + 32 = j := by omega
    simp only [rfold, h1, a1, b1, b2, b3, decide_true, decide_false, Bool.true_and, Bool.false_and, Bool.or_false, and_self]
    cases m j <;> cases m (j - 32) <;> rfl
  · by_cases h2 : 65 ≤ j ∧ j + 32 < 123
    · have b1 : 97 ≤ j + 32 ∧ j + 32 < 123 := by omega
      have b2 : ¬ (65 ≤ j + 32 ∧ j + 32 + 32 < 123) := by omega
      simp only [rfold, h1, h2, b1, b2, Nat.add_sub_cancel, decide_true, decide_false, Bool.true_and, Bool.false_and, Bool.or_false, and_self]
      cases m j <;> cases m (j + 32) <;> rfl
    · simp only [rfold, h1, h2, decide_false, Bool.false_and, Bool.or_false]
theorem lit_113 : ∀ i, i < [113].length → (#[.int .u8 113] : Array Value)[i]? = some (.int .u8 ([113].getD i 0 : Nat)) := by
  intro i hi
  have : i = 0 := by simp at hi; omega
  subst this; rfl
theorem lf_twice {s : Nat → Nat} (hs : W64 s) : eqS (lf (lf s 26) 26) (lf s 26) = true := by
  rw [eqS_iff (lf_W64 (lf_W64 hs 26) 26) (lf_W64 hs 26)]
  intro b _
  rw [bit_lf _ 26 b (by omega)]
  have : bit (lf s 26) = rfold (bit s) 123 := funext fun j => bit_lf s 26 j (by omega)
  rw [this]
  exact rfold_twice _ b
theorem folds_walk (s : Nat → Nat) (hs : W64 s) (w : World) : Calls Try.prog 3 #[.agg (AV s)] w fun e w' => e = .returned (.bool true) ∧ Below w.heap.size w w' := by
  have HQ : Hid (bit (lf (ofL [113]) 26) 81 = true) := Lib.hid (by
    rw [bit_lf _ 26 _ (by omega)]
    have : bit (ofL [113]) = fun c => decide (c ∈ [113]) := funext fun c => bit_ofL _ c
    rw [this]; decide)
  have HE1 : Hid (∀ i, i < 256 → bit (lf s 26) i = rfold (bit s) 123 i) := Lib.hid fun i _ => bit_lf s 26 i (by omega)
  have HE2 : Hid (eqS (lf (lf s 26) 26) (lf s 26) = true) := Lib.hid (lf_twice hs)
  go_enter Try.func3, Try.ntmps3
  go_wp2_with (first | (refine wpList_load_row rfl 24 _ rfl _ rfl _ _ _ _ (heap_at _ _ _ rfl) Try.underlying24 rfl (i24 _) ?_; simp only [Act.put, List.setIfInBounds_toArray, List.set_cons_zero, List.set_cons_succ]) | fail)
  refine (fold_c s hs _).mono ?_
  rintro e w1 ⟨rfl, hb1⟩
  have H0 := Lib.hid (block_below' hb1 (heap_at w (.cells (AV s) 24) _ rfl))
  have HE1' := Lib.hid ((grew_alloc w _).trans hb1)
  clear hb1
  go_wp2_with (first | (refine wpList_alloc_row rfl 24 rfl _ z24 ?_; simp only [Act.put, List.setIfInBounds_toArray, List.set_cons_zero, List.set_cons_succ]) | (refine wpList_store_row rfl 24 _ _ rfl _ rfl _ rfl _ _ (heap_at _ _ _ rfl) (i24 _) (by rw [AV_size, AV_size]) (AV_one _) ?_; rw [setRow_alloc _ _ _ _ _ rfl]; simp only [Act.put, List.setIfInBounds_toArray, List.set_cons_zero, List.set_cons_succ]) | fail)
  obtain ⟨B0, hB0⟩ : ∃ B0, B0 = w.heap.size := ⟨_, rfl⟩
  obtain ⟨B1, hB1⟩ : ∃ B1, B1 = w1.heap.size := ⟨_, rfl⟩
  rw [← hB0] at H0
  have H1 := Lib.hid (heap_at w1 (.cells (AV (lf s 26)) 24) B1 hB1)
  have H0 := Lib.hid (block_below' (grew_alloc w1 (.cells (AV (lf s 26)) 24)) H0.out)
  have HE := Lib.hid (HE1'.out.trans (grew_alloc w1 (.cells (AV (lf s 26)) 24)))
  generalize w1.alloc (.cells (AV (lf s 26)) 24) = w2 at H0 H1 HE ⊢
  rw [← hB0, ← hB1]
  clear HE1' hB0 hB1
  refine wp_region_grows 19 [IsRow #[.int .u8 113] 5 1, IsV (.agg (AV (ofL [113]))), IsV (.agg (AV (lf (ofL [113]) 26))), IsV (.bool true), IsV (.bool true), IsV (.agg (AV (lf s 26))), IsV (.agg (BV (bit (lf s 26)))), IsV (.agg (AV s)), IsV (.agg (BV (bit s))), IsV (.agg (BV (rfold (bit s) 123))), IsV (.bool true), IsV (.bool true), IsV (.bool true), IsV (.agg (AV (lf s 26))), IsV (.agg (AV (lf (lf s 26) 26))), IsV (.agg (AV (lf s 26))), IsV (.bool true), IsV (.bool true), IsV (.bool true)] []
    [[], [(0, 6)], [(1, 7)], [(2, 8)], [(3, 9)], [(4, 10)], [(4, 10), (5, 11)], [(4, 10)], [(4, 10), (7, 13)], [(4, 10), (8, 14)], [(4, 10), (6, 12), (9, 15)], [(4, 10), (10, 16)], [(11, 17)], [(12, 18)], [(12, 18), (13, 19)], [(12, 18)], [(12, 18), (14, 20), (15, 21)], [(12, 18), (16, 22)], [(17, 23)]] [(0, 6), (1, 7), (2, 8), (3, 9), (4, 10), (5, 11), (6, 12), (7, 13), (8, 14), (9, 15), (10, 16), (11, 17), (12, 18), (13, 19), (14, 20), (15, 21), (16, 22), (17, 23), (18, 2)] (by kernel_rfl) (by kernel_rfl) rfl ?stable ⟨?o0, ?o1, ?o2, ?o3, ?o4, ?o5, ?o6, ?o7, ?o8, ?o9, ?o10, ?o11, ?o12, ?o13, ?o14, ?o15, ?o16, ?o17, ?o18, trivial⟩ ?fin
  case stable => exact ⟨IsRow.stable _ _ _, IsV.stable _, IsV.stable _, IsV.stable _, IsV.stable _, IsV.stable _, IsV.stable _, IsV.stable _, IsV.stable _, IsV.stable _, IsV.stable _, IsV.stable _, IsV.stable _, IsV.stable _, IsV.stable _, IsV.stable _, IsV.stable _, IsV.stable _, IsV.stable _, trivial⟩
  case o0 =>
    rintro vals w' hg -
    simp only [putS, List.foldl_nil]
    clear hg
    go_simp
    exact ⟨grew_alloc _ _, isRow_new _ _ _ _⟩
  case o1 =>
    rintro vals w' hg ⟨⟨b0, h0, hb0⟩, _⟩
    simp only [putS, List.foldl_nil, List.foldl_cons, Act.put, List.setIfInBounds_toArray, List.set_cons_zero, List.set_cons_succ, h0]
    have hrow := hb0
    clear hg h0 hb0
    go_simp
    exact (of_lit_c [113] (by simp) (by simp) _ 1 _ 5 w' hrow lit_113).mono fun e w2 ⟨he, hb⟩ => ⟨_, he, hb, isV_mk _ _⟩
  case o2 =>
    rintro vals w' hg ⟨(h1 : vals _ = _), _⟩
    simp only [putS, List.foldl_nil, List.foldl_cons, Act.put, List.setIfInBounds_toArray, List.set_cons_zero, List.set_cons_succ, h1]
    clear hg h1
    go_simp
    exact (fold_c _ (ofL_W64 _) w').mono fun e w2 ⟨he, hb⟩ => ⟨_, he, hb, isV_mk _ _⟩
  case o3 =>
    rintro vals w' hg ⟨(h2 : vals _ = _), _⟩
    simp only [putS, List.foldl_nil, List.foldl_cons, Act.put, List.setIfInBounds_toArray, List.set_cons_zero, List.set_cons_succ, h2]
    clear hg h2
    go_simp
    exact (has_i _ (lf_W64 (ofL_W64 _) 26) 81 (by omega) (by omega) w').mono fun e w2 ⟨he, hb⟩ => ⟨_, he, hb, congrArg Value.bool HQ.out⟩
  case o4 =>
    rintro vals w' hg ⟨(h3 : vals _ = _), _⟩
    simp only [putS, List.foldl_nil, List.foldl_cons, Act.put, List.setIfInBounds_toArray, List.set_cons_zero, List.set_cons_succ, h3]
    clear hg h3
    go_simp
    try go_bits
    exact isV_mk _ _
  case o5 =>
    rintro vals w' hg ⟨(h4 : vals _ = _), _⟩
    simp only [putS, List.foldl_nil, List.foldl_cons, Act.put, List.setIfInBounds_toArray, List.set_cons_zero, List.set_cons_succ, h4]
    exact one_load_row (by rfl) _ _ rfl _ rfl _ _ _ _ (block_below' hg H1.out) Try.underlying24 rfl (i24 _) (isV_mk _ _)
  case o6 =>
    rintro vals w' hg ⟨(h4 : vals _ = _), (h5 : vals _ = _), _⟩
    simp only [putS, List.foldl_nil, List.foldl_cons, Act.put, List.setIfInBounds_toArray, List.set_cons_zero, List.set_cons_succ, h4, h5]
    clear hg h4 h5
    go_simp
    exact (refOf_c _ (lf_W64 hs 26) w').mono fun e w2 ⟨he, hb⟩ => ⟨_, he, hb, isV_mk _ _⟩
  case o7 =>
    rintro vals w' hg ⟨(h4 : vals _ = _), _⟩
    simp only [putS, List.foldl_nil, List.foldl_cons, Act.put, List.setIfInBounds_toArray, List.set_cons_zero, List.set_cons_succ, h4]
    exact one_load_row (by rfl) _ _ rfl _ rfl _ _ _ _ (block_below' hg H0.out) Try.underlying24 rfl (i24 _) (isV_mk _ _)
  case o8 =>
    rintro vals w' hg ⟨(h4 : vals _ = _), (h7 : vals _ = _), _⟩
    simp only [putS, List.foldl_nil, List.foldl_cons, Act.put, List.setIfInBounds_toArray, List.set_cons_zero, List.set_cons_succ, h4, h7]
    clear hg h4 h7
    go_simp
    exact (refOf_c _ hs w').mono fun e w2 ⟨he, hb⟩ => ⟨_, he, hb, isV_mk _ _⟩
  case o9 =>
    rintro vals w' hg ⟨(h4 : vals _ = _), (h8 : vals _ = _), _⟩
    simp only [putS, List.foldl_nil, List.foldl_cons, Act.put, List.setIfInBounds_toArray, List.set_cons_zero, List.set_cons_succ, h4, h8]
    clear hg h4 h8
    go_simp
    exact (refFold_c _ w').mono fun e w2 ⟨he, hb⟩ => ⟨_, he, hb, isV_mk _ _⟩
  case o10 =>
    rintro vals w' hg ⟨(h4 : vals _ = _), (h6 : vals _ = _), (h9 : vals _ = _), _⟩
    simp only [putS, List.foldl_nil, List.foldl_cons, Act.put, List.setIfInBounds_toArray, List.set_cons_zero, List.set_cons_succ, h4, h6, h9]
    have heq0 := fun w => eq_BV_true HE1.out w
    clear hg h4 h6 h9
    go_simp
    exact isV_mk _ _
  case o11 =>
    rintro vals w' hg ⟨(h4 : vals _ = _), (h10 : vals _ = _), _⟩
    simp only [putS, List.foldl_nil, List.foldl_cons, Act.put, List.setIfInBounds_toArray, List.set_cons_zero, List.set_cons_succ, h4, h10]
    clear hg h4 h10
    go_simp
    try go_bits
    exact isV_mk _ _
  case o12 =>
    rintro vals w' hg ⟨(h11 : vals _ = _), _⟩
    simp only [putS, List.foldl_nil, List.foldl_cons, Act.put, List.setIfInBounds_toArray, List.set_cons_zero, List.set_cons_succ, h11]
    clear hg h11
    go_simp
    try go_bits
    exact isV_mk _ _
  case o13 =>
    rintro vals w' hg ⟨(h12 : vals _ = _), _⟩
    simp only [putS, List.foldl_nil, List.foldl_cons, Act.put, List.setIfInBounds_toArray, List.set_cons_zero, List.set_cons_succ, h12]
    exact one_load_row (by rfl) _ _ rfl _ rfl _ _ _ _ (block_below' hg H1.out) Try.underlying24 rfl (i24 _) (isV_mk _ _)
  case o14 =>
    rintro vals w' hg ⟨(h12 : vals _ = _), (h13 : vals _ = _), _⟩
    simp only [putS, List.foldl_nil, List.foldl_cons, Act.put, List.setIfInBounds_toArray, List.set_cons_zero, List.set_cons_succ, h12, h13]
    clear hg h12 h13
    go_simp
    exact (fold_c _ (lf_W64 hs 26) w').mono fun e w2 ⟨he, hb⟩ => ⟨_, he, hb, isV_mk _ _⟩
  case o15 =>
    rintro vals w' hg ⟨(h12 : vals _ = _), _⟩
    simp only [putS, List.foldl_nil, List.foldl_cons, Act.put, List.setIfInBounds_toArray, List.set_cons_zero, List.set_cons_succ, h12]
    exact one_load_row (by rfl) _ _ rfl _ rfl _ _ _ _ (block_below' hg H1.out) Try.underlying24 rfl (i24 _) (isV_mk _ _)
  case o16 =>
    rintro vals w' hg ⟨(h12 : vals _ = _), (h14 : vals _ = _), (h15 : vals _ = _), _⟩
    simp only [putS, List.foldl_nil, List.foldl_cons, Act.put, List.setIfInBounds_toArray, List.set_cons_zero, List.set_cons_succ, h12, h14, h15]
    have heq0 := fun w => eq_AV_true HE2.out w
    clear hg h12 h14 h15
    go_simp
    exact isV_mk _ _
  case o17 =>
    rintro vals w' hg ⟨(h12 : vals _ = _), (h16 : vals _ = _), _⟩
    simp only [putS, List.foldl_nil, List.foldl_cons, Act.put, List.setIfInBounds_toArray, List.set_cons_zero, List.set_cons_succ, h12, h16]
    clear hg h12 h16
    go_simp
    try go_bits
    exact isV_mk _ _
  case o18 =>
    rintro vals w' hg ⟨(h17 : vals _ = _), _⟩
    simp only [putS, List.foldl_nil, List.foldl_cons, Act.put, List.setIfInBounds_toArray, List.set_cons_zero, List.set_cons_succ, h17]
    clear hg h17
    go_simp
    try go_bits
    exact isV_mk _ _
  case fin =>
    rintro vals w' hg ⟨⟨b0, h0, hb0⟩, (h1 : vals _ = _), (h2 : vals _ = _), (h3 : vals _ = _), (h4 : vals _ = _), (h5 : vals _ = _), (h6 : vals _ = _), (h7 : vals _ = _), (h8 : vals _ = _), (h9 : vals _ = _), (h10 : vals _ = _), (h11 : vals _ = _), (h12 : vals _ = _), (h13 : vals _ = _), (h14 : vals _ = _), (h15 : vals _ = _), (h16 : vals _ = _), (h17 : vals _ = _), (h18 : vals _ = _), _⟩ hfresh
    simp only [putS, List.foldl_nil, List.foldl_cons, Act.put, List.setIfInBounds_toArray, List.set_cons_zero, List.set_cons_succ, List.drop_succ_cons, List.drop_zero, h0, h1, h2, h3, h4, h5, h6, h7, h8, h9, h10, h11, h12, h13, h14, h15, h16, h17, h18]
    have HEnd := Lib.hid (HE.out.trans hg)
    clear hg hfresh h0 h1 h2 h3 h4 h5 h6 h7 h8 h9 h10 h11 h12 h13 h14 h15 h16 h17 h18 hb0
    go_wp2
    go_ret
    exact ⟨rfl, HEnd.out⟩
end Go.Proofs.Ytaagfmpolcpimaa
