/-
  The walks of letterset's small functions (Has, Union, Meet, Minus): what each returns. Conditions: words of 64 bits, letters below 256.
-/
import Derived.Test.YtaagfmpolcpimaaDoorPure
namespace Go.Proofs.YtaagfmpolcpimaaDoor
open Go.RowKit
set_option maxHeartbeats 400000
set_option maxRecDepth 100000
set_option linter.unusedSimpArgs false
set_option linter.unusedVariables false

/-- the words below k turned, the others not -/
def mixW (f s : Nat → Nat) (k : Nat) : Nat → Nat := fun j => if j < k then f j else s j
theorem mix_zero (f s : Nat → Nat) : AV s = AV (mixW f s 0) := AV_congr fun j _ => by simp [mixW]
theorem mix_four (f s : Nat → Nat) : AV (mixW f s 4) = AV f := AV_congr fun j hj => by simp [mixW, hj]
theorem mix_get (f s : Nat → Nat) (k : Nat) (hk : k < 4) : (AV (mixW f s k))[k]? = some (.int .u64 (s k)) := by rw [AV_get _ _ hk]; simp [mixW]
theorem mix_step (f s : Nat → Nat) (k : Nat) (x : Int) (hx : x = (f k : Nat)) : (AV (mixW f s k)).setIfInBounds k (.int .u64 x) = AV (mixW f s (k + 1)) := by
  rw [hx, AV_set]
  refine AV_congr fun j _ => ?_
  unfold mixW
  by_cases h : j = k
  · subst h; simp
  · by_cases h2 : j < k
    · simp [h, h2, show j < k + 1 by omega]
    · simp [h, h2, show ¬ j < k + 1 by omega]

theorem union_c (s t : Nat → Nat) (hs : W64 s) (ht : W64 t) (w : World) :
    Calls Tryd.prog 9 #[.agg (AV s), .agg (AV t)] w fun e w' => e = .returned (.agg (AV (orW s t))) ∧ Below w.heap.size w w' := by
  go_enter Tryd.func9, Tryd.ntmps9
  go_wp2_with (refine wpList_alloc_row rfl 26 rfl _ z26 ?_; simp only [Act.put, List.setIfInBounds_toArray, List.set_cons_zero, List.set_cons_succ, World.size_alloc])
  go_loopw [5, 6] (fun _ i wr => ∃ k n : Nat, k ≤ 4 ∧ i = .int .i64 k ∧ wr = (((w.alloc (.cells (AV (mixW (orW s t) s k)) 26)).alloc (.cells (AV t) 26)).alloc (.cells (AV fun _ => 0) 26)).drewN n) (fun _ i _ => 4 - (intOf i).toNat)
  case atStart => exact ⟨0, 0, by omega, rfl, by rw [← mix_zero]; rfl⟩
  case round =>
    obtain ⟨k, n, hk, rfl, rfl⟩ := hrel
    by_cases hlt : k < 4
    · have h1 := mix_get (orW s t) s k hlt
      have h2 := AV_get t k hlt
      go_wp2
      go_region
      go_wp2
      go_roundw
      case rel =>
        refine ⟨k + 1, n + 1, by omega, by go_num, ?_⟩
        rw [drewN_setCell, World.setCell_alloc_past _ _ _ _ (by simp; omega), World.setCell_alloc_past _ _ _ _ (by simp), World.setCell_alloc_at _ _ _ _ _ rfl, mix_step (orW s t) s k _ (u64_or_nat (s k) (t k) (hs k) (ht k))]
      case measure => simp [intOf]; omega
    · obtain rfl : k = 4 := by omega
      rw [mix_four]
      go_wp2_with (first | (refine wpList_load_row rfl 26 _ rfl _ rfl _ _ _ _ ((heap_past _ _ _ (by simp; omega)).trans ((heap_past _ _ _ (by simp)).trans (heap_at _ _ _ rfl))) Tryd.underlying26 rfl (i26 _) ?_; simp only [Act.put, List.setIfInBounds_toArray, List.set_cons_zero, List.set_cons_succ]) | (refine wpList_store_row rfl 26 _ _ rfl _ rfl _ rfl _ _ (heap_at _ _ _ (by simp)) (i26 _) (by rw [AV_size, AV_size]) (AV_one _) ?_; rw [drewN_setRow, setRow_alloc _ _ _ _ _ (by simp)]; simp only [Act.put, List.setIfInBounds_toArray, List.set_cons_zero, List.set_cons_succ]))
      exact bodyPost_ret (results_cell_row rfl _ _ _ _ _ _ _ rfl (heap_at _ _ _ (by simp)) Tryd.underlying26 rfl (i26 _)) rfl
        ⟨rfl, below_drewN ((((Below.refl _ _).alloc (by simp) _).alloc (by simp) _).alloc (by simp; omega) _) _⟩

theorem meet_c (s t : Nat → Nat) (hs : W64 s) (ht : W64 t) (w : World) :
    Calls Tryd.prog 8 #[.agg (AV s), .agg (AV t)] w fun e w' => e = .returned (.agg (AV (andW s t))) ∧ Below w.heap.size w w' := by
  go_enter Tryd.func8, Tryd.ntmps8
  go_wp2_with (refine wpList_alloc_row rfl 26 rfl _ z26 ?_; simp only [Act.put, List.setIfInBounds_toArray, List.set_cons_zero, List.set_cons_succ, World.size_alloc])
  go_loopw [5, 6] (fun _ i wr => ∃ k n : Nat, k ≤ 4 ∧ i = .int .i64 k ∧ wr = (((w.alloc (.cells (AV (mixW (andW s t) s k)) 26)).alloc (.cells (AV t) 26)).alloc (.cells (AV fun _ => 0) 26)).drewN n) (fun _ i _ => 4 - (intOf i).toNat)
  case atStart => exact ⟨0, 0, by omega, rfl, by rw [← mix_zero]; rfl⟩
  case round =>
    obtain ⟨k, n, hk, rfl, rfl⟩ := hrel
    by_cases hlt : k < 4
    · have h1 := mix_get (andW s t) s k hlt
      have h2 := AV_get t k hlt
      go_wp2
      go_region
      go_wp2
      go_roundw
      case rel =>
        refine ⟨k + 1, n + 1, by omega, by go_num, ?_⟩
        rw [drewN_setCell, World.setCell_alloc_past _ _ _ _ (by simp; omega), World.setCell_alloc_past _ _ _ _ (by simp), World.setCell_alloc_at _ _ _ _ _ rfl, mix_step (andW s t) s k _ (u64_and_nat (s k) (t k) (hs k) (ht k))]
      case measure => simp [intOf]; omega
    · obtain rfl : k = 4 := by omega
      rw [mix_four]
      go_wp2_with (first | (refine wpList_load_row rfl 26 _ rfl _ rfl _ _ _ _ ((heap_past _ _ _ (by simp; omega)).trans ((heap_past _ _ _ (by simp)).trans (heap_at _ _ _ rfl))) Tryd.underlying26 rfl (i26 _) ?_; simp only [Act.put, List.setIfInBounds_toArray, List.set_cons_zero, List.set_cons_succ]) | (refine wpList_store_row rfl 26 _ _ rfl _ rfl _ rfl _ _ (heap_at _ _ _ (by simp)) (i26 _) (by rw [AV_size, AV_size]) (AV_one _) ?_; rw [drewN_setRow, setRow_alloc _ _ _ _ _ (by simp)]; simp only [Act.put, List.setIfInBounds_toArray, List.set_cons_zero, List.set_cons_succ]))
      exact bodyPost_ret (results_cell_row rfl _ _ _ _ _ _ _ rfl (heap_at _ _ _ (by simp)) Tryd.underlying26 rfl (i26 _)) rfl
        ⟨rfl, below_drewN ((((Below.refl _ _).alloc (by simp) _).alloc (by simp) _).alloc (by simp; omega) _) _⟩

theorem minus_c (s t : Nat → Nat) (hs : W64 s) (ht : W64 t) (w : World) :
    Calls Tryd.prog 12 #[.agg (AV s), .agg (AV t)] w fun e w' => e = .returned (.agg (AV (subW s t))) ∧ Below w.heap.size w w' := by
  go_enter Tryd.func12, Tryd.ntmps12
  go_wp2_with (refine wpList_alloc_row rfl 26 rfl _ z26 ?_; simp only [Act.put, List.setIfInBounds_toArray, List.set_cons_zero, List.set_cons_succ, World.size_alloc])
  go_loopw [5, 6] (fun _ i wr => ∃ k n : Nat, k ≤ 4 ∧ i = .int .i64 k ∧ wr = (((w.alloc (.cells (AV (mixW (subW s t) s k)) 26)).alloc (.cells (AV t) 26)).alloc (.cells (AV fun _ => 0) 26)).drewN n) (fun _ i _ => 4 - (intOf i).toNat)
  case atStart => exact ⟨0, 0, by omega, rfl, by rw [← mix_zero]; rfl⟩
  case round =>
    obtain ⟨k, n, hk, rfl, rfl⟩ := hrel
    by_cases hlt : k < 4
    · have h1 := mix_get (subW s t) s k hlt
      have h2 := AV_get t k hlt
      go_wp2
      go_region
      go_wp2
      go_roundw
      case rel =>
        refine ⟨k + 1, n + 1, by omega, by go_num, ?_⟩
        rw [drewN_setCell, World.setCell_alloc_past _ _ _ _ (by simp; omega), World.setCell_alloc_past _ _ _ _ (by simp), World.setCell_alloc_at _ _ _ _ _ rfl, mix_step (subW s t) s k _ (u64_andNot_nat (s k) (t k) (hs k) (ht k))]
      case measure => simp [intOf]; omega
    · obtain rfl : k = 4 := by omega
      rw [mix_four]
      go_wp2_with (first | (refine wpList_load_row rfl 26 _ rfl _ rfl _ _ _ _ ((heap_past _ _ _ (by simp; omega)).trans ((heap_past _ _ _ (by simp)).trans (heap_at _ _ _ rfl))) Tryd.underlying26 rfl (i26 _) ?_; simp only [Act.put, List.setIfInBounds_toArray, List.set_cons_zero, List.set_cons_succ]) | (refine wpList_store_row rfl 26 _ _ rfl _ rfl _ rfl _ _ (heap_at _ _ _ (by simp)) (i26 _) (by rw [AV_size, AV_size]) (AV_one _) ?_; rw [drewN_setRow, setRow_alloc _ _ _ _ _ (by simp)]; simp only [Act.put, List.setIfInBounds_toArray, List.set_cons_zero, List.set_cons_succ]))
      exact bodyPost_ret (results_cell_row rfl _ _ _ _ _ _ _ rfl (heap_at _ _ _ (by simp)) Tryd.underlying26 rfl (i26 _)) rfl
        ⟨rfl, below_drewN ((((Below.refl _ _).alloc (by simp) _).alloc (by simp) _).alloc (by simp; omega) _) _⟩

end Go.Proofs.YtaagfmpolcpimaaDoor
