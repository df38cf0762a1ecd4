/-
  The walks of Fold and of the reference's Fold: what each returns. Conditions: words of 64 bits.
-/
import Derived.Test.YtaagfmpolcpimaaWb
namespace Go.Proofs.Ytaagfmpolcpimaa
open Go.RowKit
set_option maxHeartbeats 400000
set_option maxRecDepth 100000
set_option linter.unusedSimpArgs false
set_option linter.unusedVariables false

/-- the reference's Fold, the letters from 97 to below k done -/
def rfold (m : Nat → Bool) (k : Nat) : Nat → Bool := fun j => m j || (decide (97 ≤ j ∧ j < k) && m (j - 32)) || (decide (65 ≤ j ∧ j + 32 < k) && m (j + 32))
theorem rfold_start (m : Nat → Bool) : BV m = BV (rfold m 97) := BV_congr fun j _ => by
  have h1 : ¬ (97 ≤ j ∧ j < 97) := by omega
  have h2 : ¬ (65 ≤ j ∧ j + 32 < 97) := by omega
  simp [rfold, h1, h2]
theorem rfold_no (m : Nat → Bool) (k : Nat) (hk : 97 ≤ k) (hm : m k = false) (hm2 : m (k - 32) = false) : BV (rfold m k) = BV (rfold m (k + 1)) := BV_congr fun j _ => by
  unfold rfold
  by_cases h1 : j = k
  · subst h1
    have a1 : ¬ (97 ≤ j ∧ j < j) := by omega
    have a3 : ¬ (65 ≤ j ∧ j + 32 < j) := by omega
    have a4 : ¬ (65 ≤ j ∧ j + 32 < j + 1) := by omega
    simp only [hm, hm2, a3, a4, decide_false, Bool.false_and, Bool.and_false, Bool.or_false]
  · by_cases h2 : j + 32 = k
    · subst h2
      simp only [Nat.add_sub_cancel] at hm2
      have e1 : (97 ≤ j ∧ j < j + 32) ↔ (97 ≤ j ∧ j < j + 32 + 1) := by omega
      simp only [hm, hm2, e1, Bool.and_false]
    · have e1 : (97 ≤ j ∧ j < k) ↔ (97 ≤ j ∧ j < k + 1) := by omega
      have e2 : (65 ≤ j ∧ j + 32 < k) ↔ (65 ≤ j ∧ j + 32 < k + 1) := by omega
      simp only [e1, e2]
theorem rfold_yes (m : Nat → Bool) (k : Nat) (hk : 97 ≤ k) (hm : (m k || m (k - 32)) = true) : ((BV (rfold m k)).setIfInBounds k (.bool true)).setIfInBounds (k - 32) (.bool true) = BV (rfold m (k + 1)) := by
  rw [BV_set, BV_set]
  refine BV_congr fun j _ => ?_
  unfold rfold
  by_cases h1 : j = k - 32
  · subst h1
    have e : k - 32 + 32 = k := by omega
    rw [if_pos rfl, e]
    have a1 : (65 ≤ k - 32 ∧ k < k + 1) := by omega
    have a2 : ¬ (97 ≤ k - 32 ∧ k - 32 < k + 1) ∨ (97 ≤ k - 32 ∧ k - 32 < k + 1) := by omega
    cases h : m (k - 32) with
    | true => simp
    | false => rw [h] at hm; simp only [Bool.or_false] at hm; simp only [a1, hm, and_self, decide_true, Bool.and_true, Bool.or_true]
  · rw [if_neg h1]
    by_cases h2 : j = k
    · subst h2
      rw [if_pos rfl]
      have a1 : (97 ≤ j ∧ j < j + 1) := by omega
      cases h : m j with
      | true => simp
      | false => rw [h] at hm; simp only [Bool.false_or] at hm; simp only [a1, hm, and_self, decide_true, Bool.and_true, Bool.or_true, Bool.true_or]
    · rw [if_neg h2]
      have e1 : (97 ≤ j ∧ j < k) ↔ (97 ≤ j ∧ j < k + 1) := by omega
      have e2 : (65 ≤ j ∧ j + 32 < k) ↔ (65 ≤ j ∧ j + 32 < k + 1) := by omega
      simp only [e1, e2]

theorem refFold_c (m : Nat → Bool) (w : World) :
    Calls Try.prog 15 #[.agg (BV m)] w fun e w' => e = .returned (.agg (BV (rfold m 123))) ∧ Below w.heap.size w w' := by
  go_enter Try.func15, Try.ntmps15
  go_wp2_with (first | (refine wpList_alloc_row rfl 29 rfl _ z29 ?_; simp only [Act.put, List.setIfInBounds_toArray, List.set_cons_zero, List.set_cons_succ, World.size_alloc]) | (refine wpList_load_row rfl 29 _ rfl _ rfl _ _ _ _ ((heap_past _ _ _ (by simp)).trans (heap_at _ _ _ (by simp))) Try.underlying29 rfl (i29 _) ?_; simp only [Act.put, List.setIfInBounds_toArray, List.set_cons_zero, List.set_cons_succ]) | (refine wpList_store_row rfl 29 _ _ rfl _ rfl _ rfl _ _ (heap_at _ _ _ (by simp)) (i29 _) (by rw [BV_size, BV_size]) (BV_one _) ?_; rw [setRow_alloc _ _ _ _ _ (by simp)]; simp only [Act.put, List.setIfInBounds_toArray, List.set_cons_zero, List.set_cons_succ]))
  go_loopw [4] (fun b wr => ∃ k : Nat, 97 ≤ k ∧ k ≤ 123 ∧ b = .int .i32 k ∧ wr = ((w.alloc (.cells (BV m) 29)).alloc (.cells (BV fun x => false) 29)).alloc (.cells (BV (rfold m k)) 29)) (fun b _ => 256 - (intOf b).toNat)
  case atStart => exact ⟨97, by omega, by omega, rfl, by rw [← rfold_start]⟩
  case round =>
    obtain ⟨k, hk1, hk, rfl, rfl⟩ := hrel
    by_cases hlt : k ≤ 122
    · have hg1 := BV_get m k (by omega)
      have hg2 := BV_get m (k - 32) (by omega)
      have hs1 := BV_get (rfold m k) k (by omega)
      have hs2 : ((BV (rfold m k)).setIfInBounds k (.bool true))[k - 32]? = some (.bool (if k - 32 = k then true else rfold m k (k - 32))) := by rw [BV_set]; exact BV_get _ _ (by omega)
      generalize rfold m k k = r1 at hs1
      generalize (if k - 32 = k then true else rfold m k (k - 32)) = r2 at hs2
      cases hm : m k with
      | true =>
        rw [hm] at hg1
        have HM := Lib.hid hm; clear hm hg2
        go_wp2
        go_roundw
        case rel => exact ⟨k + 1, by omega, by omega, by go_num, by rw [rfold_yes m k hk1 (by rw [HM.out]; rfl)]⟩
        case measure => simp [intOf]; omega
      | false =>
        rw [hm] at hg1
        have HM := Lib.hid hm; clear hm
        cases hm2 : m (k - 32) with
        | true =>
          rw [hm2] at hg2
          have HM2 := Lib.hid hm2; clear hm2
          go_wp2
          go_roundw
          case rel => exact ⟨k + 1, by omega, by omega, by go_num, by rw [rfold_yes m k hk1 (by rw [HM.out, HM2.out]; rfl)]⟩
          case measure => simp [intOf]; omega
        | false =>
          rw [hm2] at hg2
          have HM2 := Lib.hid hm2; clear hm2
          go_wp2
          go_roundw
          case rel => exact ⟨k + 1, by omega, by omega, by go_num, by rw [rfold_no m k hk1 HM.out HM2.out]⟩
          case measure => simp [intOf]; omega
    · obtain rfl : k = 123 := by omega
      go_wp2_with (first | (refine wpList_load_row rfl 29 _ rfl _ rfl _ _ _ _ (heap_at _ _ _ (by simp)) Try.underlying29 rfl (i29 _) ?_; simp only [Act.put, List.setIfInBounds_toArray, List.set_cons_zero, List.set_cons_succ]) | (refine wpList_store_row rfl 29 _ _ rfl _ rfl _ rfl _ _ ((heap_past _ _ _ (by simp)).trans (heap_at _ _ _ (by simp))) (i29 _) (by rw [BV_size, BV_size]) (BV_one _) ?_; rw [setRow_alloc_past _ _ _ _ (by simp), setRow_alloc _ _ _ _ _ (by simp)]; simp only [Act.put, List.setIfInBounds_toArray, List.set_cons_zero, List.set_cons_succ]) )
      exact bodyPost_ret (results_cell_row rfl _ _ _ _ _ _ _ rfl ((heap_past _ _ _ (by simp)).trans (heap_at _ _ _ (by simp))) Try.underlying29 rfl (i29 _)) rfl
        ⟨rfl, (((Below.refl _ _).alloc (by simp) _).alloc (by simp) _).alloc (by simp; omega) _⟩
end Go.Proofs.Ytaagfmpolcpimaa
