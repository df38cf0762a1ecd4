/-
  The walk of the reference's Atoms: what it returns. Conditions: a row of at most 1000 sets.
-/
import Derived.Test.YtaagfmpolcpimaaDoorRw
import Derived.Deep.LoopGhost
namespace Go.Proofs.YtaagfmpolcpimaaDoor
open Go.RowKit
set_option maxHeartbeats 2000000
set_option maxRecDepth 100000
set_option linter.unusedSimpArgs false
set_option linter.unusedVariables false

/-- no letter below is alike -/
def firstB (M : List (Nat → Bool)) (k : Nat) : Bool := (List.range k).all fun l => !alike M l k
/-- the classes of the letters below k, by their first letters -/
def rAt (M : List (Nat → Bool)) : Nat → List (Nat → Bool)
  | 0 => []
  | k + 1 => if firstB M k then rAt M k ++ [alike M k] else rAt M k
theorem alike_self (M : List (Nat → Bool)) (b : Nat) : alike M b b = true := by simp [alike]
theorem rAt_len (M : List (Nat → Bool)) (k : Nat) : (rAt M k).length ≤ k := by
  induction k with
  | zero => exact Nat.le_refl _
  | succ k ih =>
    unfold rAt
    split
    · simp; omega
    · omega
theorem firstB_yes {M : List (Nat → Bool)} {k : Nat} (h : ∀ j, j < k → alike M j k = false) : firstB M k = true := by
  unfold firstB; rw [List.all_eq_true]; intro x hx; rw [h x (List.mem_range.1 hx)]; rfl
theorem firstB_no {M : List (Nat → Bool)} {k l : Nat} (hl : l < k) (h : alike M l k = true) : firstB M k = false := by
  rw [Bool.eq_false_iff]; intro h2
  have := List.all_eq_true.1 h2 l (List.mem_range.2 hl)
  rw [h] at this; cases this
/-- what the loops of Atoms keep -/
structure At (w0 : World) (B : Nat) (v : Value) (L : List (Nat → Bool)) (wr : World) : Prop where
  own : ownsB wr B v L
  below : Below B w0 wr
  at0 : B = w0.heap.size
theorem At.grew {w0 : World} {B : Nat} {v : Value} {L : List (Nat → Bool)} {w w' : World} (h : At w0 B v L w) (hg : Below w.heap.size w w') : At w0 B v L w' :=
  ⟨ownsB_grew h.own hg, h.below.trans (hg.mono (by have := h.below.size; rw [h.at0]; exact this)), h.at0⟩
theorem At.rd {w0 : World} {B : Nat} {v : Value} {L : List (Nat → Bool)} {w : World} (h : At w0 B v L w) {vM : Value} {M : List (Nat → Bool)} (hr : RdB w0 vM M) : RdB w vM M := RdB_below hr (by have := h.below; rw [h.at0] at this; exact this)
theorem At.size {w0 : World} {B : Nat} {v : Value} {L : List (Nat → Bool)} {w : World} (h : At w0 B v L w) : B ≤ w.heap.size := by rw [h.at0]; exact h.below.size
theorem At.put {w0 : World} {B : Nat} {v : Value} {L : List (Nat → Bool)} {w : World} (h : At w0 B v L w) (D c : Nat) (x : Value) (hD : B ≤ D) (hne : v.ownBlock ≠ some D) : At w0 B v L (w.setCell ⟨D, c, none⟩ x) := by
  refine ⟨h.own.kept (row := some D) ⟨rfl, rfl, rfl, by simp, fun k hk hne => heap_setCell_other _ _ _ _ (fun e => hne (by rw [e]))⟩ (.inr hne), h.below.setCell (p := ⟨D, c, none⟩) hD _, h.at0⟩
/-- the part that loop 3 fills -/
structure Part (M : List (Nat → Bool)) (b D c : Nat) (v : Value) (B : Nat) (w : World) : Prop where
  row : w.heap[D]? = some (.cells (BV fun j => decide (j < c) && alike M b j) 28)
  ne : v.ownBlock ≠ some D
  le : B ≤ D
theorem Part.grew {M : List (Nat → Bool)} {b D c : Nat} {v : Value} {B : Nat} {w w' : World} (h : Part M b D c v B w) (hg : Below w.heap.size w w') : Part M b D c v B w' := ⟨block_below' hg h.row, h.ne, h.le⟩
theorem Part.step {M : List (Nat → Bool)} {b D c : Nat} {v : Value} {B : Nat} {w : World} (h : Part M b D c v B w) (x : Bool) (hx : alike M b c = x) : Part M b D (c + 1) v B (w.setCell ⟨D, c, none⟩ (.bool x)) := by
  refine ⟨?_, h.ne, h.le⟩
  rw [heap_setCell_same _ _ _ _ _ _ h.row, BV_set]
  congr 2
  refine BV_congr fun j _ => ?_
  by_cases hj : j = c
  · subst hj; simp [hx]
  · have : (j < c) ↔ (j < c + 1) := by omega
    simp [hj, this]
theorem At.added {w0 : World} {B : Nat} {v v' : Value} {L : List (Nat → Bool)} {w wm w1 : World} (h : At w0 B v L w) (m : Nat → Bool) (hg : Below w.heap.size w wm) (hg1 : wm.grownBy w1 v.ownBlock)
    (h1 : w1.ownsRow B 28 256 v' (L.length + 1) (flatG encB L ++ (BV m).toList)) : At w0 B v' (L ++ [m]) w1 := by
  refine ⟨?_, h.below.trans (Below.grown (hg.mono h.size) hg1 (by have := hg.size; have := h.size; omega) fun k hk => (h.own.lt k hk).1), h.at0⟩
  show w1.ownsRow B 28 256 v' (L ++ [m]).length (flatG encB (L ++ [m]))
  rw [flatG_snoc, List.length_append]
  exact h1

theorem cells_row' {w : World} {g : Nat} {xs : Array Value} {t : TypeId} (h : w.heap[g]? = some (.cells xs t)) : ∀ j u, xs.toList[j]? = some u → w.cell? ((⟨g, 0, none⟩ : Addr).add j) = some u := by
  intro j u hj
  have hadd : (⟨g, 0, none⟩ : Addr).add j = ⟨g, j, none⟩ := by unfold Addr.add; split <;> simp_all
  rw [hadd, cell_of_row w g j _ _ _ h]
  simpa using hj

theorem refAtoms_c (M : List (Nat → Bool)) (hM : M.length ≤ 1000) (vM : Value) (w : World) (HR : Hid (RdB w vM M)) :
    Calls Tryd.prog 7 #[vM] w fun e w' => ∃ v, e = .returned v ∧ ownsB w' w.heap.size v (rAt M 256) ∧ Below w.heap.size w w' := by
  obtain ⟨i0, hi, hz0, hz1, hz2⟩ := info_parts info28
  obtain ⟨B, hBB⟩ : ∃ B, B = w.heap.size := ⟨_, rfl⟩
  have HBB := Lib.hid hBB
  clear hBB
  go_enter Tryd.func7, Tryd.ntmps7
  go_wp2_with fail
  go_loopg [3, 4] 256 (fun g v b wr => ∃ k : Nat, k ≤ 256 ∧ g = 256 - k ∧ b = .int .i64 k ∧ Hid (At w B v (rAt M k) wr))
  case atStart => exact ⟨0, by omega, by omega, rfl, Lib.hid ⟨World.ownsRow_nil _ _ _ _, Below.refl _ _, HBB.out⟩⟩
  case round =>
    obtain ⟨k, hk, rfl, rfl, HA⟩ := hrel
    by_cases hlt : k < 256
    · go_wp2_with fail
      rw [show decide ((k : Int) < 256) = true by simp; omega]
      go_loopg [5] 256 (fun g l wr2 => ∃ n : Nat, n ≤ k ∧ g = 256 - n ∧ l = .int .i64 n ∧ Hid (∀ j, j < n → alike M j k = false) ∧ Hid (At w B u3 (rAt M k) wr2))
      case atStart => exact ⟨0, by omega, by omega, rfl, Lib.hid (fun j hj => absurd hj (by omega)), HA⟩
      case round =>
        clear HA
        obtain ⟨n, hn, rfl, rfl, HN, HA⟩ := hrel
        go_wp2_with fail
        refine (alike_c M hM n k (by omega) hlt vM _ (HA.out.rd HR.out)).mono ?_
        rintro e w2 ⟨rfl, hb2⟩
        have HA2 := Lib.hid (HA.out.grew hb2)
        clear hb2 HA
        cases hal : alike M n k with
        | false =>
          have HAL := Lib.hid hal
          have hnk : n < k := by
            rcases Nat.lt_or_ge n k with h | h
            · exact h
            · have : n = k := by omega
              subst this
              rw [alike_self] at hal; cases hal
          clear hal
          go_wp2_with fail
          go_roundg (256 - (n + 1))
          case measure => omega
          case rel => exact ⟨n + 1, by omega, rfl, by go_num, Lib.hid (fun j hj => by
            by_cases h : j = n
            · rw [h]; exact HAL.out
            · exact HN.out j (by omega)), HA2⟩
        | true =>
          have HAL := Lib.hid hal
          clear hal
          by_cases hnk : n < k
          · have HF : Hid (firstB M k = false) := Lib.hid (firstB_no hnk HAL.out)
            go_wp2_with fail
            go_roundg (256 - (k + 1))
            case measure => omega
            case rel => exact ⟨k + 1, by omega, rfl, by go_num, Lib.hid (by rw [rAt, if_neg (by rw [HF.out]; simp)]; exact HA2.out)⟩
          · obtain rfl : n = k := by omega
            have HF : Hid (firstB M n = true) := Lib.hid (firstB_yes HN.out)
            go_wp2_with (refine wpList_alloc_row rfl 28 rfl _ z28 ?_; simp only [Act.put, List.setIfInBounds_toArray, List.set_cons_zero, List.set_cons_succ, World.size_alloc])
            obtain ⟨D, hD⟩ : ∃ D, D = w2.heap.size := ⟨_, rfl⟩
            rw [← hD]
            have HP0 : Hid (Part M n D 0 u3 B (w2.alloc (.cells (BV fun _ => false) 28))) := Lib.hid ⟨by rw [BV_congr (n := fun _ => false) fun j _ => by simp]; exact heap_at _ _ _ hD, fun e => by have := (HA2.out.own.lt D e).2; omega, by have := HA2.out.size; omega⟩
            have HA3 := Lib.hid (HA2.out.grew (grew_alloc w2 (.cells (BV fun _ => false) 28)))
            clear HA2
            generalize w2.alloc (.cells (BV fun _ => false) 28) = w3 at HP0 HA3 ⊢
            clear hD
            try rw [show decide ((n : Int) < n) = false by simp]
            go_loopg [7] 256 (fun g c wr3 => ∃ q : Nat, q ≤ 256 ∧ g = 256 - q ∧ c = .int .i64 q ∧ Hid (At w B u3 (rAt M n) wr3) ∧ Hid (Part M n D q u3 B wr3))
            case atStart => exact ⟨0, by omega, by omega, rfl, HA3, HP0⟩
            case round =>
              clear HA3 HP0
              obtain ⟨q, hq, rfl, rfl, HA3, HP⟩ := hrel
              by_cases hq2 : q < 256
              · go_wp2_with fail
                refine (alike_c M hM n q (by omega) hq2 vM _ (HA3.out.rd HR.out)).mono ?_
                rintro e w4 ⟨rfl, hb4⟩
                have HA4 := Lib.hid (HA3.out.grew hb4)
                have HP4 := Lib.hid (HP.out.grew hb4)
                clear hb4 HA3 HP
                have hcell : w4.cell? ⟨D, q, none⟩ = some (.bool (decide (q < q) && alike M n q)) := by rw [cell_of_row w4 _ _ _ _ _ HP4.out.row, BV_get _ _ hq2]
                have hfz := frozen_of_row w4 D q _ _ HP4.out.row
                go_wp2_with fail
                go_roundg (256 - (q + 1))
                case measure => omega
                case rel => exact ⟨q + 1, by omega, rfl, by go_num, Lib.hid (HA4.out.put D q _ HP4.out.le HP4.out.ne), Lib.hid (HP4.out.step _ rfl)⟩
              · have hq3 : q = 256 := by omega
                have HROW : Hid (wr.heap[D]? = some (.cells (BV (alike M n)) 28)) := Lib.hid (by rw [HP.out.row, hq3]; congr 2; exact BV_congr fun j hj => by simp [hj])
                have hln := rAt_len M n
                have hsz := HA3.out.size
                clear HP
                go_wp2_with (first | (refine wpList_load_row rfl 28 _ rfl _ rfl _ _ _ _ HROW.out Tryd.underlying28 rfl (i28 _) ?_; simp only [Act.put, List.setIfInBounds_toArray, List.set_cons_zero, List.set_cons_succ]) | (refine wpList_slice_one rfl 23 28 _ rfl (BV (alike M n)) rfl Tryd.underlying23 (i28 _) (by rw [hi]; simp [hz0]) (by rw [BV_size]; omega) (by rw [BV_size]; omega) ?_; simp only [Act.put, List.setIfInBounds_toArray, List.set_cons_zero, List.set_cons_succ]) | (at_builtin; refine wpList_append_own _ rfl _ _ 23 rfl B 28 i0 (.agg (BV fun _ => false)) 256 256 Tryd.underlying23 hi hz0 hz1 hz2 (BV_size _) (by decide) u3 (rAt M n).length (flatG encB (rAt M n)) rfl (HA3.out.own.alloc _) ⟨wr.heap.size, 0, none⟩ 1 1 (BV (alike M n)).toList rfl (by simp [BV_size]) (cells_row' (heap_at _ _ _ rfl)) (encB_one _) (by unfold maxLen; omega) (by omega) (by simp; omega) ?_; intro v4 w4 hown4 hg4 _))
                have HA4 := Lib.hid (HA3.out.added (alike M n) (grew_alloc _ _) hg4 hown4)
                clear hown4 hg4 HA3
                go_wp2_with fail
                go_roundg (256 - (n + 1))
                case measure => omega
                case rel => exact ⟨n + 1, by omega, rfl, by go_num, Lib.hid (by rw [rAt, if_pos HF.out]; exact HA4.out)⟩
    · have hk2 : k = 256 := by omega
      go_wp2_with fail
      go_ret
      exact ⟨_, rfl, by rw [← HBB.out]; have := HA.out.own; rw [hk2] at this; exact this, by rw [← HBB.out]; exact HA.out.below⟩
end Go.Proofs.YtaagfmpolcpimaaDoor
