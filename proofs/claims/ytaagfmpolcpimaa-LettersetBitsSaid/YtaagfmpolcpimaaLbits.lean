/-
  LettersetBits: the law's walk: it returns true and writes nothing that was there. Conditions: words of 64 bits.
-/
import Derived.Test.YtaagfmpolcpimaaWe
namespace Go.Proofs.Ytaagfmpolcpimaa
open Go.RowKit
attribute [local go_sem] OneStep growAt growUpon
set_option maxHeartbeats 4000000
set_option maxRecDepth 100000
set_option linter.unusedSimpArgs false
set_option linter.unusedVariables false
theorem bits_walk (s : Nat → Nat) (hs : W64 s) (w : World) : Calls Try.prog 4 #[.agg (AV s)] w fun e w' => e = .returned (.bool true) ∧ Below w.heap.size w w' := by
  go_enter Try.func4, Try.ntmps4
  go_wp2_with (first | (refine wpList_load_row rfl 24 _ rfl _ rfl _ _ _ _ (heap_at _ _ _ rfl) Try.underlying24 rfl (i24 _) ?_; simp only [Act.put, List.setIfInBounds_toArray, List.set_cons_zero, List.set_cons_succ]) | fail)
  refine (refOf_c s hs _).mono ?_
  rintro e w1 ⟨rfl, hb1⟩
  have H0 := Lib.hid (block_below' hb1 (heap_at w (.cells (AV s) 24) _ rfl))
  have HE1 := Lib.hid ((grew_alloc w _).trans hb1)
  clear hb1
  go_wp2_with (first | (refine wpList_alloc_row rfl 29 rfl _ z29 ?_; simp only [Act.put, List.setIfInBounds_toArray, List.set_cons_zero, List.set_cons_succ]) | (refine wpList_store_row rfl 29 _ _ rfl _ rfl _ rfl _ _ (heap_at _ _ _ rfl) (i29 _) (by rw [BV_size, BV_size]) (BV_one _) ?_; rw [setRow_alloc _ _ _ _ _ rfl]; simp only [Act.put, List.setIfInBounds_toArray, List.set_cons_zero, List.set_cons_succ]) | fail)
  obtain ⟨B0, hB0⟩ : ∃ B0, B0 = w.heap.size := ⟨_, rfl⟩
  obtain ⟨B1, hB1⟩ : ∃ B1, B1 = w1.heap.size := ⟨_, rfl⟩
  rw [← hB0] at H0
  have H1 := Lib.hid (heap_at w1 (.cells (BV (bit s)) 29) B1 hB1)
  have H0 := Lib.hid (block_below' (grew_alloc w1 (.cells (BV (bit s)) 29)) H0.out)
  have HE := Lib.hid (HE1.out.trans (grew_alloc w1 (.cells (BV (bit s)) 29)))
  generalize w1.alloc (.cells (BV (bit s)) 29) = w2 at H0 H1 HE ⊢
  rw [← hB0, ← hB1]
  clear HE1 hB0 hB1
  go_loopw [4] (fun i wr => ∃ k : Nat, k ≤ 256 ∧ i = .int .i64 k ∧ wr.heap[B0]? = some (.cells (AV s) 24) ∧ wr.heap[B1]? = some (.cells (BV (bit s)) 29) ∧ Grew w wr) (fun i _ => 256 - (intOf i).toNat)
  case atStart => exact ⟨0, by omega, rfl, H0.out, H1.out, HE.out⟩
  case round =>
    clear H0 H1 HE
    obtain ⟨k, hk, rfl, h0, h1, hE⟩ := hrel
    have H0 := Lib.hid h0; have H1 := Lib.hid h1; have HE := Lib.hid hE
    clear h0 h1 hE
    by_cases hlt : k < 256
    · have hk0 : (0 : Int) ≤ k := by omega
      have hk1 : (k : Int) < 256 := by omega
      go_wp2_with fail
      refine wp_region_grows 8 [IsV (.agg (AV s)), IsV (.int .i64 k), IsV (.int .u8 k), IsV (.bool (bit s k)), IsV (.int .i64 k), IsV (.pointer (some ⟨B1, k, none⟩)), IsV (.bool (bit s k)), IsV (.bool false)] []
        [[], [], [(1, 12)], [(0, 11), (2, 13)], [], [(4, 15)], [(5, 16)], [(3, 14), (6, 17)]] [(0, 11), (1, 12), (2, 13), (3, 14), (4, 15), (5, 16), (6, 17), (7, 18)] (by kernel_rfl) (by kernel_rfl) rfl ?stable ⟨?o0, ?o1, ?o2, ?o3, ?o4, ?o5, ?o6, ?o7, trivial⟩ ?fin
      case stable => exact ⟨IsV.stable _, IsV.stable _, IsV.stable _, IsV.stable _, IsV.stable _, IsV.stable _, IsV.stable _, IsV.stable _, trivial⟩
      case o0 =>
        rintro vals w' hg -
        simp only [putS, List.foldl_nil]
        exact one_load_row (by rfl) _ _ rfl _ rfl _ _ _ _ (block_below' hg H0.out) Try.underlying24 rfl (i24 _) (isV_mk _ _)
      case o1 =>
        rintro vals w' hg -
        simp only [putS, List.foldl_nil]
        clear hg
        go_simp
        try go_bits
        exact isV_mk _ _
      case o2 =>
        rintro vals w' hg ⟨(h1 : vals _ = _), _⟩
        simp only [putS, List.foldl_nil, List.foldl_cons, Act.put, List.setIfInBounds_toArray, List.set_cons_zero, List.set_cons_succ, h1]
        clear hg h1
        go_simp
        try go_bits
        exact isV_mk _ _
      case o3 =>
        rintro vals w' hg ⟨(h0 : vals _ = _), (h2 : vals _ = _), _⟩
        simp only [putS, List.foldl_nil, List.foldl_cons, Act.put, List.setIfInBounds_toArray, List.set_cons_zero, List.set_cons_succ, h0, h2]
        clear hg h0 h2
        go_simp
        exact (has_c s hs k hlt w').mono fun e w2 ⟨he, hb⟩ => ⟨_, he, hb, isV_mk _ _⟩
      case o4 =>
        rintro vals w' hg -
        simp only [putS, List.foldl_nil]
        clear hg
        go_simp
        try go_bits
        exact isV_mk _ _
      case o5 =>
        rintro vals w' hg ⟨(h4 : vals _ = _), _⟩
        simp only [putS, List.foldl_nil, List.foldl_cons, Act.put, List.setIfInBounds_toArray, List.set_cons_zero, List.set_cons_succ, h4]
        clear hg h4
        go_simp
        try go_bits
        exact isV_mk _ _
      case o6 =>
        rintro vals w' hg ⟨(h5 : vals _ = _), _⟩
        simp only [putS, List.foldl_nil, List.foldl_cons, Act.put, List.setIfInBounds_toArray, List.set_cons_zero, List.set_cons_succ, h5]
        have hc := (cell_of_row w' _ k _ _ _ (block_below' hg H1.out)).trans (BV_get _ _ hlt)
        clear hg h5
        go_simp
        try go_bits
        exact isV_mk _ _
      case o7 =>
        rintro vals w' hg ⟨(h3 : vals _ = _), (h6 : vals _ = _), _⟩
        simp only [putS, List.foldl_nil, List.foldl_cons, Act.put, List.setIfInBounds_toArray, List.set_cons_zero, List.set_cons_succ, h3, h6]
        clear hg h3 h6
        go_simp
        exact isV_mk _ _
      case fin =>
        rintro vals w' hg ⟨(h0 : vals _ = _), (h1 : vals _ = _), (h2 : vals _ = _), (h3 : vals _ = _), (h4 : vals _ = _), (h5 : vals _ = _), (h6 : vals _ = _), (h7 : vals _ = _), _⟩ hfresh
        simp only [putS, List.foldl_nil, List.foldl_cons, Act.put, List.setIfInBounds_toArray, List.set_cons_zero, List.set_cons_succ, List.drop_succ_cons, List.drop_zero, h0, h1, h2, h3, h4, h5, h6, h7]
        have H0 := Lib.hid (block_below' hg H0.out)
        have H1 := Lib.hid (block_below' hg H1.out)
        have HE := Lib.hid (HE.out.trans hg)
        clear hg hfresh h0 h1 h2 h3 h4 h5 h6 h7
        go_wp2
        go_roundw
        case rel => exact ⟨k + 1, by omega, by go_num, H0.out, H1.out, HE.out⟩
        case measure => simp [intOf]; omega
    · obtain rfl : k = 256 := by omega
      go_wp2_with fail
      refine wp_region_grows 9 [IsV (.bool true), IsV (.bool true), IsV (.agg (AV s)), IsV (.int .i64 (cnt (bit s) 256 : Nat)), IsV (.agg (BV (bit s))), IsV (.int .i64 (cnt (bit s) 256 : Nat)), IsV (.bool true), IsV (.bool true), IsV (.bool true)] []
        [[], [(0, 19)], [(1, 20)], [(1, 20), (2, 21)], [(1, 20)], [(1, 20), (4, 23)], [(1, 20), (3, 22), (5, 24)], [(1, 20), (6, 25)], [(7, 26)]] [(0, 19), (1, 20), (2, 21), (3, 22), (4, 23), (5, 24), (6, 25), (7, 26), (8, 2)] (by kernel_rfl) (by kernel_rfl) rfl ?stable ⟨?o0, ?o1, ?o2, ?o3, ?o4, ?o5, ?o6, ?o7, ?o8, trivial⟩ ?fin
      case stable => exact ⟨IsV.stable _, IsV.stable _, IsV.stable _, IsV.stable _, IsV.stable _, IsV.stable _, IsV.stable _, IsV.stable _, IsV.stable _, trivial⟩
      case o0 =>
        rintro vals w' hg -
        simp only [putS, List.foldl_nil]
        clear hg
        go_simp
        exact (alive_c w').mono fun e w2 ⟨he, hb⟩ => ⟨_, he, hb, isV_mk _ _⟩
      case o1 =>
        rintro vals w' hg ⟨(h0 : vals _ = _), _⟩
        simp only [putS, List.foldl_nil, List.foldl_cons, Act.put, List.setIfInBounds_toArray, List.set_cons_zero, List.set_cons_succ, h0]
        clear hg h0
        go_simp
        try go_bits
        exact isV_mk _ _
      case o2 =>
        rintro vals w' hg ⟨(h1 : vals _ = _), _⟩
        simp only [putS, List.foldl_nil, List.foldl_cons, Act.put, List.setIfInBounds_toArray, List.set_cons_zero, List.set_cons_succ, h1]
        exact one_load_row (by rfl) _ _ rfl _ rfl _ _ _ _ (block_below' hg H0.out) Try.underlying24 rfl (i24 _) (isV_mk _ _)
      case o3 =>
        rintro vals w' hg ⟨(h1 : vals _ = _), (h2 : vals _ = _), _⟩
        simp only [putS, List.foldl_nil, List.foldl_cons, Act.put, List.setIfInBounds_toArray, List.set_cons_zero, List.set_cons_succ, h1, h2]
        clear hg h1 h2
        go_simp
        exact (len_c s hs w').mono fun e w2 ⟨he, hb⟩ => ⟨_, he, hb, isV_mk _ _⟩
      case o4 =>
        rintro vals w' hg ⟨(h1 : vals _ = _), _⟩
        simp only [putS, List.foldl_nil, List.foldl_cons, Act.put, List.setIfInBounds_toArray, List.set_cons_zero, List.set_cons_succ, h1]
        exact one_load_row (by rfl) _ _ rfl _ rfl _ _ _ _ (block_below' hg H1.out) Try.underlying29 rfl (i29 _) (isV_mk _ _)
      case o5 =>
        rintro vals w' hg ⟨(h1 : vals _ = _), (h4 : vals _ = _), _⟩
        simp only [putS, List.foldl_nil, List.foldl_cons, Act.put, List.setIfInBounds_toArray, List.set_cons_zero, List.set_cons_succ, h1, h4]
        clear hg h1 h4
        go_simp
        exact (refLen_c (bit s) w').mono fun e w2 ⟨he, hb⟩ => ⟨_, he, hb, isV_mk _ _⟩
      case o6 =>
        rintro vals w' hg ⟨(h1 : vals _ = _), (h3 : vals _ = _), (h5 : vals _ = _), _⟩
        simp only [putS, List.foldl_nil, List.foldl_cons, Act.put, List.setIfInBounds_toArray, List.set_cons_zero, List.set_cons_succ, h1, h3, h5]
        clear hg h1 h3 h5
        go_simp
        try go_bits
        exact isV_mk _ _
      case o7 =>
        rintro vals w' hg ⟨(h1 : vals _ = _), (h6 : vals _ = _), _⟩
        simp only [putS, List.foldl_nil, List.foldl_cons, Act.put, List.setIfInBounds_toArray, List.set_cons_zero, List.set_cons_succ, h1, h6]
        clear hg h1 h6
        go_simp
        try go_bits
        exact isV_mk _ _
      case o8 =>
        rintro vals w' hg ⟨(h7 : vals _ = _), _⟩
        simp only [putS, List.foldl_nil, List.foldl_cons, Act.put, List.setIfInBounds_toArray, List.set_cons_zero, List.set_cons_succ, h7]
        clear hg h7
        go_simp
        try go_bits
        exact isV_mk _ _
      case fin =>
        rintro vals w' hg ⟨(h0 : vals _ = _), (h1 : vals _ = _), (h2 : vals _ = _), (h3 : vals _ = _), (h4 : vals _ = _), (h5 : vals _ = _), (h6 : vals _ = _), (h7 : vals _ = _), (h8 : vals _ = _), _⟩ hfresh
        simp only [putS, List.foldl_nil, List.foldl_cons, Act.put, List.setIfInBounds_toArray, List.set_cons_zero, List.set_cons_succ, List.drop_succ_cons, List.drop_zero, h0, h1, h2, h3, h4, h5, h6, h7, h8]
        have HE := Lib.hid (HE.out.trans hg)
        clear hg hfresh h0 h1 h2 h3 h4 h5 h6 h7 h8
        go_wp2
        go_ret
        exact ⟨rfl, HE.out⟩
end Go.Proofs.Ytaagfmpolcpimaa
