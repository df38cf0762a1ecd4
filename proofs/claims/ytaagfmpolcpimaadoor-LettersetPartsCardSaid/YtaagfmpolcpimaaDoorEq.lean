/-
  Equality of arrays by value, as the model runs it: 256 truth values, four words. No condition.
-/
import Derived.Test.YtaagfmpolcpimaaDoorPure
import Derived.ChangeKeysEq
namespace Go.Proofs.YtaagfmpolcpimaaDoor
open Go.RowKit
section
variable {P : Program}

theorem run_items (w : World) (d : Nat) (e : TypeId) (xs ys : Array Value) (f : Nat → Bool) : ∀ (is : List Nat),
    (∀ i ∈ is, ∃ a b, (part e xs (i * 1)).run P w = .ok a w ∧ (part e ys (i * 1)).run P w = .ok b w ∧ (Op.equalIn d e a b).run P w = .ok (f i) w) →
    (Op.eqItems d e 1 xs ys is).run P w = .ok (is.all f) w
  | [], _ => by simp [Op.eqItems]
  | i :: is, h => by
    have ih := run_items w d e xs ys f is fun j hj => h j (List.mem_cons_of_mem _ hj)
    obtain ⟨a, b, h1, h2, h3⟩ := h i (List.mem_cons_self ..)
    simp only [Op.eqItems, Sem.run_bind, h1, h2, h3, Result.andThen_ok]
    cases hb : f i with
    | true => simpa [hb] using ih
    | false => simp [hb]
end

theorem eq_BV (m n : Nat → Bool) (w : World) : (Op.equalIn 10000 28 (.agg (BV m)) (.agg (BV n))).run Tryd.prog w = .ok ((List.range 256).all fun i => m i == n i) w := by
  obtain ⟨i, hi⟩ : ∃ i, Tryd.prog.info? 4 = some i := ⟨_, rfl⟩
  rw [run_equalIn_array w 9999 (BV m) (BV n) Tryd.underlying28 hi]
  have hc : Tryd.prog.cellsOf 4 = 1 := by kernel_rfl
  rw [hc]
  refine run_items w 9999 4 _ _ (fun i => m i == n i) _ fun i hi => ?_
  have hi' : i < 256 := List.mem_range.1 hi
  refine ⟨.bool (m i), .bool (n i), ?_, ?_, run_equalIn_bool w 9998 4 _ _ Tryd.underlying4⟩
  · simp [part, BV_get m i hi']
  · simp [part, BV_get n i hi']
theorem eq_AV (s t : Nat → Nat) (w : World) : (Op.equalIn 10000 26 (.agg (AV s)) (.agg (AV t))).run Tryd.prog w = .ok (eqS s t) w := by
  obtain ⟨i, hi⟩ : ∃ i, Tryd.prog.info? 24 = some i := ⟨_, rfl⟩
  rw [run_equalIn_array w 9999 (AV s) (AV t) Tryd.underlying26 hi]
  have hc : Tryd.prog.cellsOf 24 = 1 := by kernel_rfl
  rw [hc]
  have := run_items (P := Tryd.prog) w 9999 24 (AV s) (AV t) (fun i => s i == t i) (List.range 4) fun i hi => by
    have hi' : i < 4 := List.mem_range.1 hi
    have hx := AV_get s i hi'
    have hy := AV_get t i hi'
    refine ⟨.int .u64 (s i), .int .u64 (t i), ?_, ?_, ?_⟩
    · simp [part, hx]
    · simp [part, hy]
    · rw [run_equalIn_int w 9998 24 _ _ _ _ Tryd.underlying24]
      congr 1
      rw [Bool.eq_iff_iff]
      simp
      omega
  rw [this]
  congr 1
  simp [List.range_succ, eqS, Bool.and_assoc]
theorem allRange_true {f : Nat → Bool} {n : Nat} (h : ∀ i, i < n → f i = true) : (List.range n).all f = true := List.all_eq_true.2 fun i hi => h i (List.mem_range.1 hi)
theorem eq_BV_true {m n : Nat → Bool} (h : ∀ i, i < 256 → m i = n i) (w : World) : (Op.equalIn 10000 28 (.agg (BV m)) (.agg (BV n))).run Tryd.prog w = .ok true w := by
  rw [eq_BV, allRange_true fun i hi => by rw [h i hi]; simp]
theorem eq_AV_true {s t : Nat → Nat} (h : eqS s t = true) (w : World) : (Op.equalIn 10000 26 (.agg (AV s)) (.agg (AV t))).run Tryd.prog w = .ok true w := by rw [eq_AV, h]
end Go.Proofs.YtaagfmpolcpimaaDoor
