/-
  The walks of letterset's small functions (Has, Union, Meet, Minus): what each returns. Conditions: words of 64 bits, letters below 256.
-/
import Derived.Test.YtaagfmpolcpimaaPure
namespace Go.Proofs.Ytaagfmpolcpimaa
open Go.RowKit
set_option maxHeartbeats 400000
set_option maxRecDepth 100000
set_option linter.unusedSimpArgs false
set_option linter.unusedVariables false

theorem has_c (s : Nat → Nat) (hs : W64 s) (b : Nat) (hb2 : b < 256) (w : World) :
    Calls Try.prog 12 #[.agg (AV s), .int .u8 b] w fun e w' => e = .returned (.bool (bit s b)) ∧ Below w.heap.size w w' := by
  obtain ⟨x, hx⟩ : ∃ x, x = s (b / 64) := ⟨_, rfl⟩
  have hxb : x ≤ 18446744073709551615 := by have := hs (b / 64); omega
  have hc := word_get s b hb2 x hx
  have HX := Lib.hid hx
  clear hx
  have h1 : ((b : Int) / 64).toNat = b / 64 := by omega
  go_enter Try.func12, Try.ntmps12
  go_wp2
  go_ret
  exact ⟨congrArg Ending.returned (congrArg Value.bool (bit_form s hs b x HX.out)), (Below.refl _ _).alloc (by simp) _⟩


/-- the words below k turned, the others not -/
def mixW (f s : Nat → Nat) (k : Nat) : Nat → Nat := fun j => if j < k then f j else s j
theorem mix_zero (f s : Nat → Nat) : AV s = AV (mixW f s 0) := AV_congr fun j _ => by simp [mixW]
theorem mix_four (f s : Nat → Nat) : AV (mixW f s 4) = AV f := AV_congr fun j hj => by simp [mixW, hj]
theorem mix_get (f s : Nat → Nat) (k : Nat) (hk : k < 4) : (AV (mixW f s k))[k]? = some (.int .u64 (s k)) := by rw [AV_get _ _ hk]; simp [mixW]
theorem mix_step (f s : Nat → Nat) (k : Nat) (x : Int) (hx : x = (f k : Nat)) : (AV (mixW f s k)).setIfInBounds k (.int .u64 x) = AV (mixW f s (k + 1)) := by
  rw [hx, AV_set]
  refine AV_congr fun j _ => ?_
  unfold mixW
  by_cases h : j = k
  · subst h; simp
  · by_cases h2 : j < k
    · simp [h, h2, show j < k + 1 by omega]
    · simp [h, h2, show ¬ j < k + 1 by omega]

theorem union_c (s t : Nat → Nat) (hs : W64 s) (ht : W64 t) (w : World) :
    Calls Try.prog 23 #[.agg (AV s), .agg (AV t)] w fun e w' => e = .returned (.agg (AV (orW s t))) ∧ Below w.heap.size w w' := by
  go_enter Try.func23, Try.ntmps23
  go_wp2_with (refine wpList_alloc_row rfl 24 rfl _ z24 ?_; simp only [Act.put, List.setIfInBounds_toArray, List.set_cons_zero, List.set_cons_succ, World.size_alloc])
  go_loopw [5, 6] (fun _ i wr => ∃ k n : Nat, k ≤ 4 ∧ i = .int .i64 k ∧ wr = (((w.alloc (.cells (AV (mixW (orW s t) s k)) 24)).alloc (.cells (AV t) 24)).alloc (.cells (AV fun _ => 0) 24)).drewN n) (fun _ i _ => 4 - (intOf i).toNat)
  case atStart => exact ⟨0, 0, by omega, rfl, by rw [← mix_zero]; rfl⟩
  case round =>
    obtain ⟨k, n, hk, rfl, rfl⟩ := hrel
    by_cases hlt : k < 4
    · have h1 := mix_get (orW s t) s k hlt
      have h2 := AV_get t k hlt
      go_wp2
      go_region
      go_wp2
      go_roundw
      case rel =>
        refine ⟨k + 1, n + 1, by omega, by go_num, ?_⟩
        rw [drewN_setCell, World.setCell_alloc_past _ _ _ _ (by simp; omega), World.setCell_alloc_past _ _ _ _ (by simp), World.setCell_alloc_at _ _ _ _ _ rfl, mix_step (orW s t) s k _ (u64_or_nat (s k) (t k) (hs k) (ht k))]
      case measure => simp [intOf]; omega
    · obtain rfl : k = 4 := by omega
      rw [mix_four]
      go_wp2_with (first | (refine wpList_load_row rfl 24 _ rfl _ rfl _ _ _ _ ((heap_past _ _ _ (by simp; omega)).trans ((heap_past _ _ _ (by simp)).trans (heap_at _ _ _ rfl))) Try.underlying24 rfl (i24 _) ?_; simp only [Act.put, List.setIfInBounds_toArray, List.set_cons_zero, List.set_cons_succ]) | (refine wpList_store_row rfl 24 _ _ rfl _ rfl _ rfl _ _ (heap_at _ _ _ (by simp)) (i24 _) (by rw [AV_size, AV_size]) (AV_one _) ?_; rw [drewN_setRow, setRow_alloc _ _ _ _ _ (by simp)]; simp only [Act.put, List.setIfInBounds_toArray, List.set_cons_zero, List.set_cons_succ]))
      exact bodyPost_ret (results_cell_row rfl _ _ _ _ _ _ _ rfl (heap_at _ _ _ (by simp)) Try.underlying24 rfl (i24 _)) rfl
        ⟨rfl, below_drewN ((((Below.refl _ _).alloc (by simp) _).alloc (by simp) _).alloc (by simp; omega) _) _⟩

theorem meet_c (s t : Nat → Nat) (hs : W64 s) (ht : W64 t) (w : World) :
    Calls Try.prog 24 #[.agg (AV s), .agg (AV t)] w fun e w' => e = .returned (.agg (AV (andW s t))) ∧ Below w.heap.size w w' := by
  go_enter Try.func24, Try.ntmps24
  go_wp2_with (refine wpList_alloc_row rfl 24 rfl _ z24 ?_; simp only [Act.put, List.setIfInBounds_toArray, List.set_cons_zero, List.set_cons_succ, World.size_alloc])
  go_loopw [5, 6] (fun _ i wr => ∃ k n : Nat, k ≤ 4 ∧ i = .int .i64 k ∧ wr = (((w.alloc (.cells (AV (mixW (andW s t) s k)) 24)).alloc (.cells (AV t) 24)).alloc (.cells (AV fun _ => 0) 24)).drewN n) (fun _ i _ => 4 - (intOf i).toNat)
  case atStart => exact ⟨0, 0, by omega, rfl, by rw [← mix_zero]; rfl⟩
  case round =>
    obtain ⟨k, n, hk, rfl, rfl⟩ := hrel
    by_cases hlt : k < 4
    · have h1 := mix_get (andW s t) s k hlt
      have h2 := AV_get t k hlt
      go_wp2
      go_region
      go_wp2
      go_roundw
      case rel =>
        refine ⟨k + 1, n + 1, by omega, by go_num, ?_⟩
        rw [drewN_setCell, World.setCell_alloc_past _ _ _ _ (by simp; omega), World.setCell_alloc_past _ _ _ _ (by simp), World.setCell_alloc_at _ _ _ _ _ rfl, mix_step (andW s t) s k _ (u64_and_nat (s k) (t k) (hs k) (ht k))]
      case measure => simp [intOf]; omega
    · obtain rfl : k = 4 := by omega
      rw [mix_four]
      go_wp2_with (first | (refine wpList_load_row rfl 24 _ rfl _ rfl _ _ _ _ ((heap_past _ _ _ (by simp; omega)).trans ((heap_past _ _ _ (by simp)).trans (heap_at _ _ _ rfl))) Try.underlying24 rfl (i24 _) ?_; simp only [Act.put, List.setIfInBounds_toArray, List.set_cons_zero, List.set_cons_succ]) | (refine wpList_store_row rfl 24 _ _ rfl _ rfl _ rfl _ _ (heap_at _ _ _ (by simp)) (i24 _) (by rw [AV_size, AV_size]) (AV_one _) ?_; rw [drewN_setRow, setRow_alloc _ _ _ _ _ (by simp)]; simp only [Act.put, List.setIfInBounds_toArray, List.set_cons_zero, List.set_cons_succ]))
      exact bodyPost_ret (results_cell_row rfl _ _ _ _ _ _ _ rfl (heap_at _ _ _ (by simp)) Try.underlying24 rfl (i24 _)) rfl
        ⟨rfl, below_drewN ((((Below.refl _ _).alloc (by simp) _).alloc (by simp) _).alloc (by simp; omega) _) _⟩

theorem minus_c (s t : Nat → Nat) (hs : W64 s) (ht : W64 t) (w : World) :
    Calls Try.prog 25 #[.agg (AV s), .agg (AV t)] w fun e w' => e = .returned (.agg (AV (subW s t))) ∧ Below w.heap.size w w' := by
  go_enter Try.func25, Try.ntmps25
  go_wp2_with (refine wpList_alloc_row rfl 24 rfl _ z24 ?_; simp only [Act.put, List.setIfInBounds_toArray, List.set_cons_zero, List.set_cons_succ, World.size_alloc])
  go_loopw [5, 6] (fun _ i wr => ∃ k n : Nat, k ≤ 4 ∧ i = .int .i64 k ∧ wr = (((w.alloc (.cells (AV (mixW (subW s t) s k)) 24)).alloc (.cells (AV t) 24)).alloc (.cells (AV fun _ => 0) 24)).drewN n) (fun _ i _ => 4 - (intOf i).toNat)
  case atStart => exact ⟨0, 0, by omega, rfl, by rw [← mix_zero]; rfl⟩
  case round =>
    obtain ⟨k, n, hk, rfl, rfl⟩ := hrel
    by_cases hlt : k < 4
    · have h1 := mix_get (subW s t) s k hlt
      have h2 := AV_get t k hlt
      go_wp2
      go_region
      go_wp2
      go_roundw
      case rel =>
        refine ⟨k + 1, n + 1, by omega, by go_num, ?_⟩
        rw [drewN_setCell, World.setCell_alloc_past _ _ _ _ (by simp; omega), World.setCell_alloc_past _ _ _ _ (by simp), World.setCell_alloc_at _ _ _ _ _ rfl, mix_step (subW s t) s k _ (u64_andNot_nat (s k) (t k) (hs k) (ht k))]
      case measure => simp [intOf]; omega
    · obtain rfl : k = 4 := by omega
      rw [mix_four]
      go_wp2_with (first | (refine wpList_load_row rfl 24 _ rfl _ rfl _ _ _ _ ((heap_past _ _ _ (by simp; omega)).trans ((heap_past _ _ _ (by simp)).trans (heap_at _ _ _ rfl))) Try.underlying24 rfl (i24 _) ?_; simp only [Act.put, List.setIfInBounds_toArray, List.set_cons_zero, List.set_cons_succ]) | (refine wpList_store_row rfl 24 _ _ rfl _ rfl _ rfl _ _ (heap_at _ _ _ (by simp)) (i24 _) (by rw [AV_size, AV_size]) (AV_one _) ?_; rw [drewN_setRow, setRow_alloc _ _ _ _ _ (by simp)]; simp only [Act.put, List.setIfInBounds_toArray, List.set_cons_zero, List.set_cons_succ]))
      exact bodyPost_ret (results_cell_row rfl _ _ _ _ _ _ _ rfl (heap_at _ _ _ (by simp)) Try.underlying24 rfl (i24 _)) rfl
        ⟨rfl, below_drewN ((((Below.refl _ _).alloc (by simp) _).alloc (by simp) _).alloc (by simp; omega) _) _⟩

theorem not_c (s : Nat → Nat) (hs : W64 s) (w : World) :
    Calls Try.prog 26 #[.agg (AV s)] w fun e w' => e = .returned (.agg (AV (notW s))) ∧ Below w.heap.size w w' := by
  go_enter Try.func26, Try.ntmps26
  go_wp2_with (refine wpList_alloc_row rfl 24 rfl _ z24 ?_; simp only [Act.put, List.setIfInBounds_toArray, List.set_cons_zero, List.set_cons_succ, World.size_alloc])
  go_loopw [3, 4] (fun _ i wr => ∃ k : Nat, k ≤ 4 ∧ i = .int .i64 k ∧ wr = ((w.alloc (.cells (AV (mixW (notW s) s k)) 24)).alloc (.cells (AV fun _ => 0) 24))) (fun _ i _ => 4 - (intOf i).toNat)
  case atStart => exact ⟨0, by omega, rfl, by rw [← mix_zero]⟩
  case round =>
    obtain ⟨k, hk, rfl, rfl⟩ := hrel
    by_cases hlt : k < 4
    · have h1 := mix_get (notW s) s k hlt
      go_wp2
      go_roundw
      case rel => exact ⟨k + 1, by omega, by go_num, by rw [mix_step (notW s) s k _ (not_form _ (hs k))]⟩
      case measure => simp [intOf]; omega
    · obtain rfl : k = 4 := by omega
      rw [mix_four]
      go_wp2_with (first | (refine wpList_load_row rfl 24 _ rfl _ rfl _ _ _ _ ((heap_past _ _ _ (by simp)).trans (heap_at _ _ _ rfl)) Try.underlying24 rfl (i24 _) ?_; simp only [Act.put, List.setIfInBounds_toArray, List.set_cons_zero, List.set_cons_succ]) | (refine wpList_store_row rfl 24 _ _ rfl _ rfl _ rfl _ _ (heap_at _ _ _ (by simp)) (i24 _) (by rw [AV_size, AV_size]) (AV_one _) ?_; rw [setRow_alloc _ _ _ _ _ (by simp)]; simp only [Act.put, List.setIfInBounds_toArray, List.set_cons_zero, List.set_cons_succ]))
      exact bodyPost_ret (results_cell_row rfl _ _ _ _ _ _ _ rfl (heap_at _ _ _ (by simp)) Try.underlying24 rfl (i24 _)) rfl
        ⟨rfl, ((Below.refl _ _).alloc (by simp) _).alloc (by simp) _⟩

theorem of_c (zs : List Nat) (hz : ∀ z ∈ zs, z < 256) (hl : zs.length ≤ 9223372036854775807) (b o cap : Nat) (w : World) (HC : Hid (∀ i, i < zs.length → w.cell? ⟨b, o + i, none⟩ = some (.int .u8 (zs.getD i 0 : Nat)))) (hb : b < w.heap.size) :
    Calls Try.prog 13 #[.slice (some ⟨b, o, none⟩) zs.length cap] w fun e w' => e = .returned (.agg (AV (ofL zs))) ∧ Below w.heap.size w w' := by
  go_enter Try.func13, Try.ntmps13
  go_wp2_with (refine wpList_alloc_row rfl 24 rfl _ z24 ?_; simp only [Act.put, List.setIfInBounds_toArray, List.set_cons_zero, List.set_cons_succ, World.size_alloc])
  go_loopw [5, 8] (fun _ i wr => ∃ k : Nat, k ≤ zs.length ∧ i = .int .i64 k ∧ wr = ((w.alloc (.cells (AV fun _ => 0) 24)).alloc (.cells (AV (ofL (zs.take k))) 24))) (fun _ i _ => zs.length - (intOf i).toNat)
  case atStart => exact ⟨0, by omega, rfl, rfl⟩
  case round =>
    obtain ⟨k, hk, rfl, rfl⟩ := hrel
    by_cases hlt : k < zs.length
    · obtain ⟨z, hzz⟩ : ∃ z, z = zs.getD k 0 := ⟨_, rfl⟩
      have hz2 : z < 256 := hz _ (by rw [hzz]; simp [List.getD, hlt])
      obtain ⟨x, hx⟩ : ∃ x, x = ofL (zs.take k) (z / 64) := ⟨_, rfl⟩
      have hxb : x ≤ 18446744073709551615 := by have := ofL_W64 (zs.take k) (z / 64); omega
      have hc := word_get (ofL (zs.take k)) z hz2 x hx
      have hcell := HC.out k hlt
      rw [← hzz] at hcell
      have h1 : ((z : Int) / 64).toNat = z / 64 := by omega
      have HX := Lib.hid hx
      have HZ := Lib.hid hzz
      clear hx hzz
      go_wp2
      go_roundw
      case rel =>
        refine ⟨k + 1, by omega, by go_num, ?_⟩
        rw [add_form _ (ofL_W64 _) _ _ HX.out, take_snoc' zs k hlt, ofL_snoc, HZ.out]
      case measure => simp [intOf]; omega
    · obtain rfl : k = zs.length := by omega
      rw [List.take_length]
      go_wp2_with (first | (refine wpList_load_row rfl 24 _ rfl _ rfl _ _ _ _ (heap_at _ _ _ (by simp)) Try.underlying24 rfl (i24 _) ?_; simp only [Act.put, List.setIfInBounds_toArray, List.set_cons_zero, List.set_cons_succ]) | (refine wpList_store_row rfl 24 _ _ rfl _ rfl _ rfl _ _ ((heap_past _ _ _ (by simp)).trans (heap_at _ _ _ rfl)) (i24 _) (by rw [AV_size, AV_size]) (AV_one _) ?_; rw [setRow_alloc_past _ _ _ _ (by simp), setRow_alloc _ _ _ _ _ rfl]; simp only [Act.put, List.setIfInBounds_toArray, List.set_cons_zero, List.set_cons_succ]))
      exact bodyPost_ret (results_cell_row rfl _ _ _ _ _ _ _ rfl ((heap_past _ _ _ (by simp)).trans (heap_at _ _ _ rfl)) Try.underlying24 rfl (i24 _)) rfl
        ⟨rfl, ((Below.refl _ _).alloc (by simp) _).alloc (by simp) _⟩

/-- no letters at all -/
theorem of_nil_c (cap : Nat) (w : World) :
    Calls Try.prog 13 #[.slice none 0 cap] w fun e w' => e = .returned (.agg (AV (ofL []))) ∧ Below w.heap.size w w' := by
  go_enter Try.func13, Try.ntmps13
  go_wp2_with (refine wpList_alloc_row rfl 24 rfl _ z24 ?_; simp only [Act.put, List.setIfInBounds_toArray, List.set_cons_zero, List.set_cons_succ, World.size_alloc])
  go_loopw [5, 8] (fun _ i wr => i = .int .i64 0 ∧ wr = ((w.alloc (.cells (AV fun _ => 0) 24)).alloc (.cells (AV (ofL [])) 24))) (fun _ _ _ => 0)
  case atStart => exact ⟨rfl, rfl⟩
  case round =>
    obtain ⟨rfl, rfl⟩ := hrel
    go_wp2_with (first | (refine wpList_load_row rfl 24 _ rfl _ rfl _ _ _ _ (heap_at _ _ _ (by simp)) Try.underlying24 rfl (i24 _) ?_; simp only [Act.put, List.setIfInBounds_toArray, List.set_cons_zero, List.set_cons_succ]) | (refine wpList_store_row rfl 24 _ _ rfl _ rfl _ rfl _ _ ((heap_past _ _ _ (by simp)).trans (heap_at _ _ _ rfl)) (i24 _) (by rw [AV_size, AV_size]) (AV_one _) ?_; rw [setRow_alloc_past _ _ _ _ (by simp), setRow_alloc _ _ _ _ _ rfl]; simp only [Act.put, List.setIfInBounds_toArray, List.set_cons_zero, List.set_cons_succ]))
    exact bodyPost_ret (results_cell_row rfl _ _ _ _ _ _ _ rfl ((heap_past _ _ _ (by simp)).trans (heap_at _ _ _ rfl)) Try.underlying24 rfl (i24 _)) rfl
        ⟨rfl, ((Below.refl _ _).alloc (by simp) _).alloc (by simp) _⟩
end Go.Proofs.Ytaagfmpolcpimaa
