/-
  The walk of letterset's Fold: what it returns. Conditions: words of 64 bits.
-/
import Derived.Test.YtaagfmpolcpimaaWc
namespace Go.Proofs.Ytaagfmpolcpimaa
open Go.RowKit
attribute [local go_sem] OneStep growAt growUpon
set_option maxHeartbeats 2000000
set_option maxRecDepth 100000
set_option linter.unusedSimpArgs false
set_option linter.unusedVariables false

theorem has_i (s : Nat → Nat) (hs : W64 s) (b : Int) (h0 : 0 ≤ b) (h1 : b < 256) (w : World) :
    Calls Try.prog 12 #[.agg (AV s), .int .u8 b] w fun e w' => e = .returned (.bool (bit s b.toNat)) ∧ Below w.heap.size w w' := by
  obtain ⟨n, rfl⟩ := Int.eq_ofNat_of_zero_le h0
  exact has_c s hs n (by omega) w

/-- Fold, n letters from 97 on done -/
def lf (s : Nat → Nat) : Nat → Nat → Nat
  | 0 => s
  | n + 1 => if bit (lf s n) (97 + n) || bit (lf s n) (65 + n) then orW (lf s n) (ofL [97 + n, 65 + n]) else lf s n
theorem lf_W64 {s : Nat → Nat} (hs : W64 s) (n : Nat) : W64 (lf s n) := by
  induction n with
  | zero => exact hs
  | succ n ih =>
    unfold lf
    split
    · exact orW_W64 ih (ofL_W64 _)
    · exact ih
theorem bit_lf (s : Nat → Nat) (n c : Nat) (hn : n ≤ 26) : bit (lf s n) c = rfold (bit s) (97 + n) c := by
  induction n generalizing c with
  | zero =>
    have h1 : ¬ (97 ≤ c ∧ c < 97 + 0) := by omega
    have h2 : ¬ (65 ≤ c ∧ c + 32 < 97 + 0) := by omega
    simp [lf, rfold, h1, h2]
  | succ n ih =>
    have ih := fun c => ih c (by omega)
    have key : ∀ c, rfold (bit s) (97 + n + 1) c = if bit s (97 + n) || bit s (65 + n) then (rfold (bit s) (97 + n) c || decide (c = 97 + n) || decide (c = 65 + n)) else rfold (bit s) (97 + n) c := by
      intro c
      by_cases h1 : c = 97 + n
      · subst h1
        have e1 : 97 + n - 32 = 65 + n := by omega
        have a1 : ¬ (97 ≤ 97 + n ∧ 97 + n < 97 + n) := by omega
        have a2 : 97 ≤ 97 + n ∧ 97 + n < 97 + n + 1 := by omega
        have a3 : ¬ (65 ≤ 97 + n ∧ 97 + n + 32 < 97 + n) := by omega
        have a4 : ¬ (65 ≤ 97 + n ∧ 97 + n + 32 < 97 + n + 1) := by omega
        simp only [rfold, e1, a1, a2, a3, a4]
        cases bit s (97 + n) <;> cases bit s (65 + n) <;> simp
      · by_cases h2 : c = 65 + n
        · subst h2
          have e1 : 65 + n + 32 = 97 + n := by omega
          have a1 : (97 ≤ 65 + n ∧ 65 + n < 97 + n) ↔ (97 ≤ 65 + n ∧ 65 + n < 97 + n + 1) := by omega
          have a3 : ¬ (65 ≤ 65 + n ∧ 97 + n < 97 + n) := by omega
          have a4 : (65 ≤ 65 + n ∧ 97 + n < 97 + n + 1) := by omega
          simp only [rfold, e1, a1, a3, a4]
          cases bit s (97 + n) <;> cases bit s (65 + n) <;> simp
        · have e1 : (97 ≤ c ∧ c < 97 + n) ↔ (97 ≤ c ∧ c < 97 + n + 1) := by omega
          have e2 : (65 ≤ c ∧ c + 32 < 97 + n) ↔ (65 ≤ c ∧ c + 32 < 97 + n + 1) := by omega
          simp only [rfold, e1, e2, h1, h2, decide_false, Bool.or_false]
          split <;> rfl
    have hold : (rfold (bit s) (97 + n) (97 + n) || rfold (bit s) (97 + n) (65 + n)) = (bit s (97 + n) || bit s (65 + n)) := by
      have a1 : ¬ (97 ≤ 97 + n ∧ 97 + n < 97 + n) := by omega
      have a3 : ¬ (65 ≤ 97 + n ∧ 97 + n + 32 < 97 + n) := by omega
      have a5 : ¬ (65 ≤ 65 + n ∧ 65 + n + 32 < 97 + n) := by omega
      have a6 : ¬ (97 ≤ 65 + n ∧ 65 + n < 97 + n) := by omega
      simp only [rfold, a1, a3, a5, a6, decide_false, Bool.false_and, Bool.or_false]
    rw [show 97 + (n + 1) = 97 + n + 1 by omega, key]
    unfold lf
    rw [ih, ih, hold]
    split
    · rw [bit_orW, ih, bit_ofL]; simp [Bool.or_assoc]
    · exact ih c

theorem fold_c (s : Nat → Nat) (hs : W64 s) (w : World) :
    Calls Try.prog 11 #[.agg (AV s)] w fun e w' => e = .returned (.agg (AV (lf s 26))) ∧ Below w.heap.size w w' := by
  obtain ⟨B, hBB⟩ : ∃ B, B = w.heap.size := ⟨_, rfl⟩
  go_enter Try.func11, Try.ntmps11
  go_wp2_with (refine wpList_alloc_row rfl 24 rfl _ z24 ?_; simp only [Act.put, List.setIfInBounds_toArray, List.set_cons_zero, List.set_cons_succ, World.size_alloc])
  rw [← hBB]
  go_loopw [3] (fun b wr => ∃ n : Nat, n ≤ 26 ∧ b = .int .u8 (97 + n : Nat) ∧ wr.heap[B]? = some (.cells (AV (lf s n)) 24) ∧ wr.heap[B + 1]? = some (.cells (AV fun _ => 0) 24) ∧ Below B w wr) (fun b _ => 256 - (intOf b).toNat)
  case atStart => exact ⟨0, by omega, rfl, by rw [heap_past _ _ _ (by simp; omega)]; exact heap_at _ _ _ hBB, heap_at _ _ _ (by simp; omega), by rw [hBB]; exact ((Below.refl _ _).alloc (by simp) _).alloc (by simp) _⟩
  case round =>
    obtain ⟨n, hn, rfl, hb0, hb1, hbel⟩ := hrel
    have HB := Lib.hid hb0
    have HB1 := Lib.hid hb1
    have HBE := Lib.hid hbel
    have HBB := Lib.hid hBB
    clear hb0 hb1 hbel hBB
    obtain ⟨z, hz⟩ : ∃ z, z = 97 + n := ⟨_, rfl⟩
    rw [← hz]
    have hz1 : 97 ≤ z := by omega
    have hz2 : z ≤ 123 := by omega
    have HZ := Lib.hid hz
    clear hz
    by_cases hlt : z ≤ 122
    · cases hbit : bit (lf s n) z with
      | true =>
        go_wp2_with (first | (refine wpList_load_row rfl 24 _ rfl _ rfl _ _ _ _ HB.out Try.underlying24 rfl (i24 _) ?_; simp only [Act.put, List.setIfInBounds_toArray, List.set_cons_zero, List.set_cons_succ]))
        refine (has_c _ (lf_W64 hs n) z (by omega) _).mono ?_
        rintro e w1 ⟨rfl, hb1⟩
        have H1 := Lib.hid (block_below' hb1 HB.out)
        have H1b := Lib.hid (block_below' hb1 HB1.out)
        have HBE1 := Lib.hid (HBE.out.trans (hb1.mono (by rw [HBB.out]; exact HBE.out.size)))
        clear hb1
        go_wp2_with fail
        have HOR : Hid ((bit (lf s n) z || bit (lf s n) (z - 32)) = true) := Lib.hid (by rw [hbit]; rfl)
        clear hbit
        obtain ⟨x, hx⟩ : ∃ x, x = lf s n := ⟨_, rfl⟩
        rw [← hx] at H1 ⊢
        have hxW : W64 x := by rw [hx]; exact lf_W64 hs n
        have HX := Lib.hid hx
        clear hx
        refine wp_region_grows 6 [IsV (.agg (AV x)), IsV (.int .u8 z), IsV (.int .u8 ((z : Int) - 97 + 65)),
          IsRow #[.int .u8 z, .int .u8 ((z : Int) - 97 + 65)] 5 2,
          IsV (.agg (AV (ofL [z, z - 32]))), IsV (.agg (AV (orW x (ofL [z, z - 32]))))]
          [] [[], [], [], [(1, 21), (2, 22)], [(3, 23)], [(0, 20), (4, 24)]] [(0, 20), (1, 21), (2, 22), (3, 23), (4, 24), (5, 25)] (by kernel_rfl) (by kernel_rfl) rfl ?stable ⟨?o0, ?o1, ?o2, ?o3, ?o4, ?o5, trivial⟩ ?fin
        case stable =>
          exact ⟨IsV.stable _, IsV.stable _, IsV.stable _, IsRow.stable _ _ _, IsV.stable _, IsV.stable _, trivial⟩
        case o0 =>
          intro vals w' hg _
          simp only [putS, List.foldl_nil]
          exact one_load_row rfl 24 _ rfl _ rfl _ _ _ _ (block_below' hg H1.out) Try.underlying24 rfl (i24 _) (isV_mk _ _)
        case o1 =>
          intro vals w' hg _
          simp only [putS, List.foldl_nil]
          go_simp
          exact isV_mk _ _
        case o2 =>
          intro vals w' hg _
          simp only [putS, List.foldl_nil]
          go_simp
          exact isV_mk _ _
        case o3 =>
          rintro vals w' hg ⟨(h1 : vals _ = _), (h2 : vals _ = _), _⟩
          simp only [putS, List.foldl_nil, List.foldl_cons, Act.put, List.setIfInBounds_toArray, List.set_cons_zero, List.set_cons_succ, h1, h2]
          clear hg h1 h2
          go_simp
          exact ⟨grew_alloc _ _, isRow_new _ _ _ _⟩
        case o4 =>
          rintro vals w' hg ⟨⟨b, h1, h2⟩, _⟩
          simp only [putS, List.foldl_nil, List.foldl_cons, Act.put, List.setIfInBounds_toArray, List.set_cons_zero, List.set_cons_succ, h1]
          have H2 := Lib.hid h2
          clear hg h1 h2
          go_simp
          refine (of_c [z, z - 32] (by simp; omega) (by simp) b 0 2 w' (Lib.hid fun i hi => ?_) (lt_of_block H2.out)).mono ?_
          · have : i = 0 ∨ i = 1 := by simp at hi; omega
            rcases this with rfl | rfl
            · rw [cell_of_row w' b _ _ _ _ H2.out]; rfl
            · rw [cell_of_row w' b _ _ _ _ H2.out]
              simp
              omega
          · rintro e w2 ⟨rfl, hb2⟩
            exact ⟨_, rfl, hb2, isV_mk _ _⟩
        case o5 =>
          rintro vals w' hg ⟨(h1 : vals _ = _), (h2 : vals _ = _), _⟩
          simp only [putS, List.foldl_nil, List.foldl_cons, Act.put, List.setIfInBounds_toArray, List.set_cons_zero, List.set_cons_succ, h1, h2]
          clear hg h1 h2
          go_simp
          exact (union_c x _ hxW (ofL_W64 _) w').mono fun e w2 ⟨he, hb2⟩ => ⟨_, he, hb2, isV_mk _ _⟩
        case fin =>
          rintro vals w' hg ⟨(h0 : vals _ = _), (h1 : vals _ = _), (h2 : vals _ = _), ⟨b, h3, hb3⟩, (h4 : vals _ = _), (h5 : vals _ = _), _⟩ -
          simp only [putS, List.foldl_nil, List.foldl_cons, Act.put, List.setIfInBounds_toArray, List.set_cons_zero, List.set_cons_succ, List.drop_succ_cons, List.drop_zero, h0, h1, h2, h3, h4, h5]
          have H2 := Lib.hid (block_below' hg H1.out)
          have H3 := Lib.hid (block_below' hg H1b.out)
          have H4 := Lib.hid (HBE1.out.trans (hg.mono (by rw [HBB.out]; exact HBE1.out.size)))
          clear hg h0 h1 h2 h3 h4 h5 hb3
          refine wpList_store_row rfl 24 _ _ rfl _ rfl _ rfl _ _ H2.out (i24 _) (by rw [AV_size, AV_size]) (AV_one _) ?_
          simp only [Act.put, List.setIfInBounds_toArray, List.set_cons_zero, List.set_cons_succ]
          go_wp2
          go_roundw
          case rel =>
            refine ⟨n + 1, by have := HZ.out; omega, by rw [HZ.out]; go_num, ?_, (setRow_other _ _ _ _ (by omega)).trans H3.out, H4.out.trans ⟨rfl, rfl, rfl, by simp, fun k hk => setRow_other _ _ _ _ (by omega)⟩⟩
            rw [setRow_heap _ _ _ _ _ _ H2.out]
            congr 2
            have e1 : 97 + n = z := HZ.out.symm
            have e2 : 65 + n = z - 32 := by omega
            rw [lf, if_pos (by rw [e1, e2]; exact HOR.out), ← HX.out, e1, e2]
          case measure => simp [intOf]; omega
      | false =>
        go_wp2_with (first | (refine wpList_load_row rfl 24 _ rfl _ rfl _ _ _ _ HB.out Try.underlying24 rfl (i24 _) ?_; simp only [Act.put, List.setIfInBounds_toArray, List.set_cons_zero, List.set_cons_succ]))
        refine (has_c _ (lf_W64 hs n) z (by omega) _).mono ?_
        rintro e w1 ⟨rfl, hb1⟩
        have H1 := Lib.hid (block_below' hb1 HB.out)
        have H1b := Lib.hid (block_below' hb1 HB1.out)
        have HBE1 := Lib.hid (HBE.out.trans (hb1.mono (by rw [HBB.out]; exact HBE.out.size)))
        clear hb1 HB HB1 HBE
        go_wp2_with (first | (refine wpList_load_row_g (by rfl) 24 _ rfl _ rfl _ _ _ _ H1.out Try.underlying24 rfl (i24 _) ?_; simp only [Act.put, List.setIfInBounds_toArray, List.set_cons_zero, List.set_cons_succ]))
        have hup : ((z : Int) - 97 + 65).toNat = z - 32 := by omega
        cases hbit2 : bit (lf s n) (z - 32) with
        | true =>
          refine (has_i _ (lf_W64 hs n) _ (by omega) (by omega) _).mono ?_
          rw [hup, hbit2]
          rintro e w2 ⟨rfl, hb2⟩
          have H1 := Lib.hid (block_below' hb2 H1.out)
          have H1b := Lib.hid (block_below' hb2 H1b.out)
          have HBE1 := Lib.hid (HBE1.out.trans (hb2.mono (by rw [HBB.out]; exact HBE1.out.size)))
          clear hb2
          have HOR : Hid ((bit (lf s n) z || bit (lf s n) (z - 32)) = true) := Lib.hid (by rw [hbit2, Bool.or_true])
          clear hbit hbit2 hup
          go_wp2_with fail
          obtain ⟨x, hx⟩ : ∃ x, x = lf s n := ⟨_, rfl⟩
          rw [← hx] at H1 ⊢
          have hxW : W64 x := by rw [hx]; exact lf_W64 hs n
          have HX := Lib.hid hx
          clear hx
          refine wp_region_grows 6 [IsV (.agg (AV x)), IsV (.int .u8 z), IsV (.int .u8 ((z : Int) - 97 + 65)),
            IsRow #[.int .u8 z, .int .u8 ((z : Int) - 97 + 65)] 5 2,
            IsV (.agg (AV (ofL [z, z - 32]))), IsV (.agg (AV (orW x (ofL [z, z - 32]))))]
            [] [[], [], [], [(1, 21), (2, 22)], [(3, 23)], [(0, 20), (4, 24)]] [(0, 20), (1, 21), (2, 22), (3, 23), (4, 24), (5, 25)] (by kernel_rfl) (by kernel_rfl) rfl ?stable ⟨?o0, ?o1, ?o2, ?o3, ?o4, ?o5, trivial⟩ ?fin
          case stable =>
            exact ⟨IsV.stable _, IsV.stable _, IsV.stable _, IsRow.stable _ _ _, IsV.stable _, IsV.stable _, trivial⟩
          case o0 =>
            intro vals w' hg _
            simp only [putS, List.foldl_nil]
            exact one_load_row rfl 24 _ rfl _ rfl _ _ _ _ (block_below' hg H1.out) Try.underlying24 rfl (i24 _) (isV_mk _ _)
          case o1 =>
            intro vals w' hg _
            simp only [putS, List.foldl_nil]
            go_simp
            exact isV_mk _ _
          case o2 =>
            intro vals w' hg _
            simp only [putS, List.foldl_nil]
            go_simp
            exact isV_mk _ _
          case o3 =>
            rintro vals w' hg ⟨(h1 : vals _ = _), (h2 : vals _ = _), _⟩
            simp only [putS, List.foldl_nil, List.foldl_cons, Act.put, List.setIfInBounds_toArray, List.set_cons_zero, List.set_cons_succ, h1, h2]
            clear hg h1 h2
            go_simp
            exact ⟨grew_alloc _ _, isRow_new _ _ _ _⟩
          case o4 =>
            rintro vals w' hg ⟨⟨b, h1, h2⟩, _⟩
            simp only [putS, List.foldl_nil, List.foldl_cons, Act.put, List.setIfInBounds_toArray, List.set_cons_zero, List.set_cons_succ, h1]
            have H2 := Lib.hid h2
            clear hg h1 h2
            go_simp
            refine (of_c [z, z - 32] (by simp; omega) (by simp) b 0 2 w' (Lib.hid fun i hi => ?_) (lt_of_block H2.out)).mono ?_
            · have : i = 0 ∨ i = 1 := by simp at hi; omega
              rcases this with rfl | rfl
              · rw [cell_of_row w' b _ _ _ _ H2.out]; rfl
              · rw [cell_of_row w' b _ _ _ _ H2.out]
                simp
                omega
            · rintro e w2 ⟨rfl, hb2⟩
              exact ⟨_, rfl, hb2, isV_mk _ _⟩
          case o5 =>
            rintro vals w' hg ⟨(h1 : vals _ = _), (h2 : vals _ = _), _⟩
            simp only [putS, List.foldl_nil, List.foldl_cons, Act.put, List.setIfInBounds_toArray, List.set_cons_zero, List.set_cons_succ, h1, h2]
            clear hg h1 h2
            go_simp
            exact (union_c x _ hxW (ofL_W64 _) w').mono fun e w2 ⟨he, hb2⟩ => ⟨_, he, hb2, isV_mk _ _⟩
          case fin =>
            rintro vals w' hg ⟨(h0 : vals _ = _), (h1 : vals _ = _), (h2 : vals _ = _), ⟨b, h3, hb3⟩, (h4 : vals _ = _), (h5 : vals _ = _), _⟩ -
            simp only [putS, List.foldl_nil, List.foldl_cons, Act.put, List.setIfInBounds_toArray, List.set_cons_zero, List.set_cons_succ, List.drop_succ_cons, List.drop_zero, h0, h1, h2, h3, h4, h5]
            have H2 := Lib.hid (block_below' hg H1.out)
            have H3 := Lib.hid (block_below' hg H1b.out)
            have H4 := Lib.hid (HBE1.out.trans (hg.mono (by rw [HBB.out]; exact HBE1.out.size)))
            clear hg h0 h1 h2 h3 h4 h5 hb3
            go_wp2_with (first | (refine wpList_store_row rfl 24 _ _ rfl _ rfl _ rfl _ _ H2.out (i24 _) (by rw [AV_size, AV_size]) (AV_one _) ?_; simp only [Act.put, List.setIfInBounds_toArray, List.set_cons_zero, List.set_cons_succ]))
            go_roundw
            case rel =>
              refine ⟨n + 1, by have := HZ.out; omega, by rw [HZ.out]; go_num, ?_, (setRow_other _ _ _ _ (by omega)).trans H3.out, H4.out.trans ⟨rfl, rfl, rfl, by simp, fun k hk => setRow_other _ _ _ _ (by omega)⟩⟩
              rw [setRow_heap _ _ _ _ _ _ H2.out]
              congr 2
              have e1 : 97 + n = z := HZ.out.symm
              have e2 : 65 + n = z - 32 := by omega
              rw [lf, if_pos (by rw [e1, e2]; exact HOR.out), ← HX.out, e1, e2]
            case measure => simp [intOf]; omega
        | false =>
          refine (has_i _ (lf_W64 hs n) _ (by omega) (by omega) _).mono ?_
          rw [hup, hbit2]
          rintro e w2 ⟨rfl, hb2⟩
          have H2 := Lib.hid (block_below' hb2 H1.out)
          have H3 := Lib.hid (block_below' hb2 H1b.out)
          have H4 := Lib.hid (HBE1.out.trans (hb2.mono (by rw [HBB.out]; exact HBE1.out.size)))
          have HOR : Hid (¬ (bit (lf s n) z || bit (lf s n) (z - 32)) = true) := Lib.hid (by rw [hbit, hbit2]; decide)
          clear hb2 hbit hbit2 hup H1 H1b HBE1
          go_wp2
          go_roundw
          case rel =>
            have e1 : 97 + n = z := HZ.out.symm
            have e2 : 65 + n = z - 32 := by omega
            exact ⟨n + 1, by have := HZ.out; omega, by rw [HZ.out]; go_num, by rw [lf, if_neg (by rw [e1, e2]; exact HOR.out)]; exact H2.out, H3.out, H4.out⟩
          case measure => simp [intOf]; omega
    · obtain rfl : n = 26 := by have := HZ.out; omega
      go_wp2_with (first | (refine wpList_load_row rfl 24 _ rfl _ rfl _ _ _ _ HB.out Try.underlying24 rfl (i24 _) ?_; simp only [Act.put, List.setIfInBounds_toArray, List.set_cons_zero, List.set_cons_succ]) | (refine wpList_store_row rfl 24 _ _ rfl _ rfl _ rfl _ _ HB1.out (i24 _) (by rw [AV_size, AV_size]) (AV_one _) ?_; simp only [Act.put, List.setIfInBounds_toArray, List.set_cons_zero, List.set_cons_succ]))
      exact bodyPost_ret (results_cell_row rfl _ _ _ _ _ _ _ rfl (setRow_heap _ _ _ _ _ _ HB1.out) Try.underlying24 rfl (i24 _)) rfl
        ⟨rfl, by rw [← HBB.out]; exact HBE.out.trans ⟨rfl, rfl, rfl, by simp, fun k hk => setRow_other _ _ _ _ (by omega)⟩⟩
end Go.Proofs.Ytaagfmpolcpimaa
