/-
  The walks of letterset's Between and of the reference's Of, Len, Fold: what each returns. Conditions: words of 64 bits, letters below 256.
-/
import Derived.Test.YtaagfmpolcpimaaDoorWa
namespace Go.Proofs.YtaagfmpolcpimaaDoor
open Go.RowKit
set_option maxHeartbeats 400000
set_option maxRecDepth 100000
set_option linter.unusedSimpArgs false
set_option linter.unusedVariables false

/-- the letters from lo on, n of them -/
def btw (lo n : Nat) : Nat → Nat := ofL (List.range' lo n)
theorem btw_W64 (lo n : Nat) : W64 (btw lo n) := ofL_W64 _
theorem btw_succ (lo n : Nat) : btw lo (n + 1) = addB (btw lo n) (lo + n) := by
  unfold btw; rw [List.range'_concat, ofL_snoc]; simp
theorem bit_btw (lo n c : Nat) : bit (btw lo n) c = decide (lo ≤ c ∧ c < lo + n) := by
  unfold btw; rw [bit_ofL]; simp [List.mem_range'_1]

theorem between_c (lo hi : Nat) (h1 : lo < 256) (h2 : hi < 256) (w : World) :
    Calls Tryd.prog 11 #[.int .u8 lo, .int .u8 hi] w fun e w' => e = .returned (.agg (AV (btw lo (hi + 1 - lo)))) ∧ Below w.heap.size w w' := by
  go_enter Tryd.func11, Tryd.ntmps11
  go_wp2_with (refine wpList_alloc_row rfl 26 rfl _ z26 ?_; simp only [Act.put, List.setIfInBounds_toArray, List.set_cons_zero, List.set_cons_succ, World.size_alloc])
  go_loopw [6] (fun i wr => ∃ k n : Nat, lo + k ≤ max lo (hi + 1) ∧ i = .int .i64 (lo + k : Nat) ∧ wr = ((w.alloc (.cells (AV fun _ => 0) 26)).alloc (.cells (AV (btw lo k)) 26)).drewN n) (fun i _ => 256 - (intOf i).toNat)
  case atStart => exact ⟨0, 0, by omega, by simp, rfl⟩
  case round =>
    obtain ⟨k, n, hk, rfl, rfl⟩ := hrel
    obtain ⟨z, hz⟩ : ∃ z, z = lo + k := ⟨_, rfl⟩
    rw [← hz]
    have HZ := Lib.hid hz
    have hz3 : lo ≤ z := by omega
    have hz4 : z ≤ 256 := by omega
    clear hz
    by_cases hlt : z ≤ hi
    · have hz2 : z < 256 := by omega
      obtain ⟨x, hx⟩ : ∃ x, x = btw lo k (z / 64) := ⟨_, rfl⟩
      have hxb : x ≤ 18446744073709551615 := by have := btw_W64 lo k (z / 64); omega
      have hc := word_get (btw lo k) z hz2 x hx
      have h64 : ((z : Int) / 64).toNat = z / 64 := by omega
      have h65 : (z : Int) / 64 < 4 := by omega
      have HX := Lib.hid hx
      clear hx
      go_wp2
      go_region
      go_wp2
      go_roundw
      case rel =>
        refine ⟨k + 1, n + 1, by have := HZ.out; omega, by rw [HZ.out]; go_num, ?_⟩
        rw [drewN_setCell, World.setCell_alloc_at _ _ _ _ _ (by simp), add_form _ (btw_W64 _ _) _ _ HX.out, btw_succ, HZ.out]
      case measure => simp [intOf]; omega
    · have hk2 : k = hi + 1 - lo := by have := HZ.out; omega
      rw [hk2]
      clear hk2
      go_wp2_with (first | (refine wpList_load_row rfl 26 _ rfl _ rfl _ _ _ _ (heap_at _ _ _ (by simp)) Tryd.underlying26 rfl (i26 _) ?_; simp only [Act.put, List.setIfInBounds_toArray, List.set_cons_zero, List.set_cons_succ]) | (refine wpList_store_row rfl 26 _ _ rfl _ rfl _ rfl _ _ ((heap_past _ _ _ (by simp)).trans (heap_at _ _ _ rfl)) (i26 _) (by rw [AV_size, AV_size]) (AV_one _) ?_; rw [drewN_setRow, setRow_alloc_past _ _ _ _ (by simp), setRow_alloc _ _ _ _ _ rfl]; simp only [Act.put, List.setIfInBounds_toArray, List.set_cons_zero, List.set_cons_succ]))
      exact bodyPost_ret (results_cell_row rfl _ _ _ _ _ _ _ rfl ((heap_past _ _ _ (by simp)).trans (heap_at _ _ _ rfl)) Tryd.underlying26 rfl (i26 _)) rfl
        ⟨rfl, below_drewN (((Below.refl _ _).alloc (by simp) _).alloc (by simp) _) _⟩

theorem bit_step (s : Nat → Nat) (k y n q : Nat) (hq : q = s (k / 64)) (hy : y = q / 2 ^ n) (hn : n ≤ k % 64) (hn2 : ¬ n < k % 64) :
    (BV fun j => decide (j < k) && bit s j).setIfInBounds k (.bool ((y : Int) % 2 == 1)) = BV (fun j => decide (j < k + 1) && bit s j) := by
  rw [BV_set]
  refine BV_congr fun j _ => ?_
  by_cases hjk : j = k
  · subst hjk
    have hn3 : n = j % 64 := by omega
    have : ((y : Int) % 2 == 1) = (s (j / 64)).testBit (j % 64) := by
      rw [Nat.testBit_eq_decide_div_mod_eq, ← hq, ← hn3, ← hy]
      rw [Bool.eq_iff_iff]
      simp
      omega
    simp [bit, this]
  · have e : decide (j < k + 1) = decide (j < k) := by simp; omega
    simp [hjk, e]
theorem bit_all (s : Nat → Nat) : BV (fun j => decide (j < 256) && bit s j) = BV (bit s) :=
  BV_congr fun j hj => by simp [hj]
theorem bit_none (s : Nat → Nat) : BV (fun _ => false) = BV (fun j => decide (j < 0) && bit s j) := BV_congr fun j _ => by simp

theorem refOf_c (s : Nat → Nat) (HS : W64 s) (w : World) :
    Calls Tryd.prog 5 #[.agg (AV s)] w fun e w' => e = .returned (.agg (BV (bit s))) ∧ Below w.heap.size w w' := by
  go_enter Tryd.func5, Tryd.ntmps5
  go_wp2_with (refine wpList_alloc_row rfl 28 rfl _ z28 ?_; simp only [Act.put, List.setIfInBounds_toArray, List.set_cons_zero, List.set_cons_succ, World.size_alloc])
  go_loopw [4, 5, 6] (fun b _ _ wr => ∃ k : Nat, k ≤ 256 ∧ b = .int .i64 k ∧ wr = ((w.alloc (.cells (AV s) 26)).alloc (.cells (BV fun _ => false) 28)).alloc (.cells (BV fun j => decide (j < k) && bit s j) 28)) (fun b _ _ _ => 256 - (intOf b).toNat)
  case atStart => exact ⟨0, by omega, rfl, by rw [← bit_none]⟩
  case round =>
    obtain ⟨k, hk, rfl, rfl⟩ := hrel
    by_cases hlt : k < 256
    · obtain ⟨q, hq⟩ : ∃ q, q = s (k / 64) := ⟨_, rfl⟩
      have hx := word_get s k hlt q hq
      have HQ := Lib.hid hq; clear hq
      have h64 : ((k : Int) / 64).toNat = k / 64 := by omega
      go_wp2
      clear hx h64
      generalize hwo : ((w.alloc (.cells (AV s) 26)).alloc (.cells (BV fun _ => false) 28)).alloc (.cells (BV fun j => decide (j < k) && bit s j) 28) = wo
      have HW := Lib.hid hwo; clear hwo
      go_loopw [5, 6] (fun x i wr => ∃ n : Nat, n ≤ k % 64 ∧ x = .int .u64 ((q / 2 ^ n : Nat) : Int) ∧ i = .int .i64 n ∧ wr = wo) (fun _ i _ => 64 - (intOf i).toNat)
      case atStart => exact ⟨0, by omega, by simp, rfl, rfl⟩
      case round =>
        obtain ⟨n, hn, hx', rfl, rfl⟩ := hrel
        obtain ⟨y, hy⟩ : ∃ y, y = q / 2 ^ n := ⟨_, rfl⟩
        rw [← hy] at hx'
        subst hx'
        have hyb : y ≤ 18446744073709551615 := by
          rw [hy]; exact Nat.le_trans (Nat.div_le_self _ _) (by have := HS (k / 64); rw [← HQ.out] at this; omega)
        have HY := Lib.hid hy; clear hy
        by_cases hn2 : n < k % 64
        · go_wp2
          go_roundw
          case rel => exact ⟨n + 1, by omega, by rw [HY.out, Nat.pow_succ, ← Nat.div_div_eq_div_mul]; rfl, by go_num, trivial⟩
          case measure => simp [intOf]; omega
        · have hst : (BV fun j => decide (j < k) && bit s j)[k]? = some (.bool (decide (k < k) && bit s k)) := BV_get _ _ hlt
          have hwo := HW.out; subst hwo; clear HW
          go_wp2
          go_roundw
          case rel =>
            refine ⟨k + 1, by omega, by go_num, ?_⟩
            rw [bit_step s k _ _ _ HQ.out HY.out hn hn2]
          case measure => simp [intOf]; omega
    · obtain rfl : k = 256 := by omega
      rw [bit_all]
      go_wp2_with (first | (refine wpList_load_row rfl 28 _ rfl _ rfl _ _ _ _ (heap_at _ _ _ (by simp)) Tryd.underlying28 rfl (i28 _) ?_; simp only [Act.put, List.setIfInBounds_toArray, List.set_cons_zero, List.set_cons_succ]) | (refine wpList_store_row rfl 28 _ _ rfl _ rfl _ rfl _ _ ((heap_past _ _ _ (by simp)).trans (heap_at _ _ _ (by simp))) (i28 _) (by rw [BV_size, BV_size]) (BV_one _) ?_; rw [setRow_alloc_past _ _ _ _ (by simp), setRow_alloc _ _ _ _ _ (by simp)]; simp only [Act.put, List.setIfInBounds_toArray, List.set_cons_zero, List.set_cons_succ]) )
      exact bodyPost_ret (results_cell_row rfl _ _ _ _ _ _ _ rfl ((heap_past _ _ _ (by simp)).trans (heap_at _ _ _ (by simp))) Tryd.underlying28 rfl (i28 _)) rfl
        ⟨rfl, (((Below.refl _ _).alloc (by simp) _).alloc (by simp) _).alloc (by simp; omega) _⟩

/-- how many of the letters below k are in -/
def cnt (m : Nat → Bool) : Nat → Nat
  | 0 => 0
  | k + 1 => cnt m k + if m k then 1 else 0
theorem cnt_le (m : Nat → Bool) (k : Nat) : cnt m k ≤ k := by
  induction k with
  | zero => exact Nat.le_refl _
  | succ k ih => unfold cnt; split <;> omega
theorem cnt_congr {m n : Nat → Bool} (k : Nat) (h : ∀ j, j < k → m j = n j) : cnt m k = cnt n k := by
  induction k with
  | zero => rfl
  | succ k ih => unfold cnt; rw [ih fun j hj => h j (by omega), h k (by omega)]

end Go.Proofs.YtaagfmpolcpimaaDoor
