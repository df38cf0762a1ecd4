/-
  The walk of the reference's Parse: what it returns. Conditions: bytes below 256, a text that fits memory.
-/
import Derived.Test.YtaagfmpolcpimaaWm
namespace Go.Proofs.Ytaagfmpolcpimaa
open Go.RowKit
set_option maxHeartbeats 2000000
set_option maxRecDepth 100000
set_option linter.unusedSimpArgs false
set_option linter.unusedVariables false
attribute [local go_sem] strB_len strB_bytes

theorem wpList_build_zero {P : Program} {ops : Array Oper} {rest : List Oper} {o : Oper} {a : Act} {w : World} {Q : Exit → Act → World → Prop} (hgd : o.guard = none) (ty : TypeId) (ho : o.op = .build ty #[]) (v : Value)
    (hz : ∀ w, (Instr.build ty #[]).run P w = .ok v w) (h : wpList P ops Q rest (a.put o.dst v) w) : wpList P ops Q (o :: rest) a w :=
  wpList_plain hgd fun _ hK => by
    unfold Oper.wp execOp
    simp only [ho, List.map_toArray, List.map_nil, Sem.run_bind, hz, Result.andThen_ok, Sem.run_pure]
    exact hK _ _ h
theorem b29 (w : World) : (Instr.build 29 #[]).run Try.prog w = .ok (.agg (BV fun _ => false)) w := by unfold BV; kernel_rfl

/-- what the loops of the reference's Parse keep: the result's block, the set's block, the old memory -/
structure Rst (w0 : World) (B : Nat) (m : Nat → Bool) (w : World) : Prop where
  res : w.heap[B]? = some (.cells (BV fun _ => false) 29)
  set : w.heap[B + 1]? = some (.cells (BV m) 29)
  below : Below B w0 w
  at0 : B = w0.heap.size
theorem Rst.size {w0 : World} {m : Nat → Bool} {B : Nat} {w : World} (h : Rst w0 B m w) : B + 2 ≤ w.heap.size := lt_of_block h.set
theorem Rst.grew {w0 : World} {m : Nat → Bool} {B : Nat} {w w' : World} (h : Rst w0 B m w) (hg : Below w.heap.size w w') : Rst w0 B m w' :=
  ⟨block_below' hg h.res, block_below' hg h.set, h.below.trans (hg.mono (by have := h.size; omega)), h.at0⟩
theorem Rst.same {w0 : World} {m n : Nat → Bool} {B : Nat} {w : World} (h : Rst w0 B m w) (e : ∀ j, j < 256 → m j = n j) : Rst w0 B n w :=
  ⟨h.res, by rw [← BV_congr e]; exact h.set, h.below, h.at0⟩
theorem Rst.final {w0 : World} {m : Nat → Bool} {B : Nat} {w : World} (h : Rst w0 B m w) (n : Nat → Bool) : (w.setRow B (BV n)).heap[B]? = some (.cells (BV n) 29) ∧ Below B w0 (w.setRow B (BV n)) :=
  ⟨setRow_heap _ _ _ _ _ _ h.res, h.below.trans ⟨rfl, rfl, rfl, by simp, fun k hk => setRow_other _ _ _ _ (by omega)⟩⟩
theorem Rst.cell {w0 : World} {m : Nat → Bool} {B : Nat} {w : World} (h : Rst w0 B m w) (n : Nat) (hn : n < 256) : w.cell? ⟨B + 1, n, none⟩ = some (.bool (m n)) := by
  rw [cell_of_row w _ _ _ _ _ h.set, BV_get _ _ hn]
theorem Rst.free {w0 : World} {m : Nat → Bool} {B : Nat} {w : World} (h : Rst w0 B m w) (n : Nat) (hn : n < 256) : w.frozen? ⟨B + 1, n, none⟩ = false := frozen_of_row _ _ _ _ _ h.set
theorem Rst.step {w0 : World} {s : Nat → Nat} {B a : Nat} {w : World} (n : Nat) (h : Rst w0 B (fun j => bit s j || decide (a ≤ j ∧ j < n)) w) (hn : n < 256) (ha : a ≤ n) : Rst w0 B (fun j => bit s j || decide (a ≤ j ∧ j < n + 1)) (w.setCell ⟨B + 1, n, none⟩ (.bool true)) := by
  refine ⟨(heap_setCell_other _ _ _ _ (by simp)).trans h.res, ?_, h.below.setCell (p := ⟨B + 1, n, none⟩) (by simp) _, h.at0⟩
  rw [heap_setCell_same _ _ _ _ _ _ h.set, BV_set]
  congr 2
  refine BV_congr fun j _ => ?_
  by_cases hj : j = n
  · subst hj; simp [ha]
  · have : (a ≤ j ∧ j < n) ↔ (a ≤ j ∧ j < n + 1) := by omega
    simp [hj, this]
def prsRV : Option (Nat → Nat) → Value
  | none => .tuple #[.agg (BV fun _ => false), .int .i64 4]
  | some s => .tuple #[.agg (BV (bit s)), .int .i64 0]
theorem refElt_at (L : List Nat) (hl : ∀ x ∈ L, x < 256) (k : Nat) (hk : k ≤ L.length) (hL : L.length ≤ 1000000000000000) (a n : Nat) (he : elt (L.drop k) = (a, n)) (w : World) :
    Calls Try.prog 35 #[.string (strB L), .int .i64 k] w fun e w' => e = .returned (if n = 0 then .tuple #[.int .i64 (-1), .int .i64 k] else .tuple #[.int .i64 a, .int .i64 (k + n : Nat)]) ∧ Below w.heap.size w w' :=
  (refElement_c L hl k hk hL w).mono fun e w' ⟨h1, h2⟩ => ⟨by
    rw [h1]; unfold refElt; rw [he]; simp only []; split <;> rfl, h2⟩

theorem refParse_c (L : List Nat) (hl : ∀ x ∈ L, x < 256) (hL : L.length ≤ 1000000000000000) (w : World) :
    Calls Try.prog 28 #[.string (strB L)] w fun e w' => e = .returned (prsRV (prs L fun _ => 0)) ∧ Below w.heap.size w w' := by
  obtain ⟨B, hBB⟩ : ∃ B, B = w.heap.size := ⟨_, rfl⟩
  have HBB := Lib.hid hBB
  have H0 : Hid (Rst w B (bit fun _ => 0) ((w.alloc (.cells (BV fun _ => false) 29)).alloc (.cells (BV fun _ => false) 29))) := Lib.hid
    ⟨by rw [heap_past _ _ _ (by simp; omega)]; exact heap_at _ _ _ hBB, by rw [BV_congr (n := fun _ => false) fun j _ => bit_zero j]; exact heap_at _ _ _ (by simp; omega), by rw [hBB]; exact ((Below.refl _ _).alloc (by simp) _).alloc (by simp) _, hBB⟩
  have HL := Lib.hid hl
  clear hl
  go_enter Try.func28, Try.ntmps28
  go_wp2_with (refine wpList_alloc_row rfl 29 rfl _ z29 ?_; simp only [Act.put, List.setIfInBounds_toArray, List.set_cons_zero, List.set_cons_succ, World.size_alloc])
  rw [← hBB]
  clear hBB
  go_loopg [5] L.length (fun g i wr => ∃ (k : Nat) (s : Nat → Nat), k ≤ L.length ∧ g = L.length - k ∧ i = .int .i64 k ∧ Hid (prs (L.drop k) s = prs L fun _ => 0) ∧ Hid (W64 s) ∧ Hid (Rst w B (bit s) wr))
  case atStart => exact ⟨0, _, by omega, by omega, rfl, Lib.hid (by rw [List.drop_zero]), Lib.hid W64_zero, H0⟩
  case round =>
    obtain ⟨k, s, hk, rfl, rfl, HF, HW, HS⟩ := hrel
    clear H0
    by_cases hlt : k < L.length
    · obtain ⟨a, n, HE, ha, hn⟩ := elt_at L HL.out k hk
      go_wp2_with fail
      refine (refElt_at L HL.out k hk hL a n HE.out _).mono ?_
      rintro e w1 ⟨rfl, hb1⟩
      have HS1 := Lib.hid (HS.out.grew hb1)
      clear hb1 HS
      by_cases hn0 : n = 0
      · rw [if_pos hn0]
        subst hn0
        have HR : Hid (prs L (fun _ => 0) = none) := Lib.hid (by rw [← HF.out]; exact prs_err0 hlt HE.out s)
        go_wp2_with (first | (refine wpList_build_zero rfl 29 rfl _ b29 ?_; simp only [Act.put, List.setIfInBounds_toArray, List.set_cons_zero, List.set_cons_succ]) | (refine wpList_store_row rfl 29 _ _ rfl _ rfl _ rfl _ _ HS1.out.res (i29 _) (by simp only [BV_size]) (BV_one _) ?_; simp only [Act.put, List.setIfInBounds_toArray, List.set_cons_zero, List.set_cons_succ]))
        have HZ := HS1.out.final fun _ => false
        exact bodyPost_ret (results_row_tmp rfl _ _ _ _ _ _ _ _ rfl rfl HZ.1 Try.underlying29 rfl (i29 _)) rfl ⟨by rw [HR.out]; rfl, by rw [← HBB.out]; exact HZ.2⟩
      · rw [if_neg hn0]
        have HN0 := Lib.hid hn0
        have hn1 : 1 ≤ n := by omega
        clear hn0
        by_cases h45 : L[k + n]? = some 45
        · have HD := Lib.hid h45
          have hlt2 : k + n < L.length := (List.getElem?_eq_some_iff.1 h45).1
          have i0 := strB_at L (k + n) 45 (by omega) h45
          clear h45
          obtain ⟨b, m, HE2, hb, hm⟩ := elt_at L HL.out (k + n + 1) (by omega)
          go_wp2_with fail
          refine (refElt_at L HL.out (k + n + 1) (by omega) hL b m HE2.out _).mono ?_
          rintro e w2 ⟨rfl, hb2⟩
          have HS2 := Lib.hid (HS1.out.grew hb2)
          clear hb2 HS1
          by_cases hm0 : m = 0
          · rw [if_pos hm0]
            have HM := Lib.hid hm0
            subst hm0
            have HR : Hid (prs L (fun _ => 0) = none) := Lib.hid (by rw [← HF.out]; exact prs_err2 hlt HE.out HN0.out HD.out HE2.out (.inl rfl) s)
            go_wp2_with (first | (refine wpList_build_zero rfl 29 rfl _ b29 ?_; simp only [Act.put, List.setIfInBounds_toArray, List.set_cons_zero, List.set_cons_succ]) | (refine wpList_store_row rfl 29 _ _ rfl _ rfl _ rfl _ _ HS2.out.res (i29 _) (by simp only [BV_size]) (BV_one _) ?_; simp only [Act.put, List.setIfInBounds_toArray, List.set_cons_zero, List.set_cons_succ]))
            have HZ := HS2.out.final fun _ => false
            exact bodyPost_ret (results_row_tmp rfl _ _ _ _ _ _ _ _ rfl rfl HZ.1 Try.underlying29 rfl (i29 _)) rfl ⟨by rw [HR.out]; rfl, by rw [← HBB.out]; exact HZ.2⟩
          · rw [if_neg hm0]
            have HM := Lib.hid hm0
            have hm1 : 1 ≤ m := by omega
            clear hm0
            by_cases hba : b < a
            · have HBA := Lib.hid hba
              have HR : Hid (prs L (fun _ => 0) = none) := Lib.hid (by rw [← HF.out]; exact prs_err2 hlt HE.out HN0.out HD.out HE2.out (.inr HBA.out) s)
              go_wp2_with (first | (refine wpList_build_zero rfl 29 rfl _ b29 ?_; simp only [Act.put, List.setIfInBounds_toArray, List.set_cons_zero, List.set_cons_succ]) | (refine wpList_store_row rfl 29 _ _ rfl _ rfl _ rfl _ _ HS2.out.res (i29 _) (by simp only [BV_size]) (BV_one _) ?_; simp only [Act.put, List.setIfInBounds_toArray, List.set_cons_zero, List.set_cons_succ]))
              have HZ := HS2.out.final fun _ => false
              exact bodyPost_ret (results_row_tmp rfl _ _ _ _ _ _ _ _ rfl rfl HZ.1 Try.underlying29 rfl (i29 _)) rfl ⟨by rw [HR.out]; rfl, by rw [← HBB.out]; exact HZ.2⟩
            · have hba2 : a ≤ b := by omega
              have HBA : Hid (¬ (m = 0 ∨ b < a)) := Lib.hid (by have := HM.out; omega)
              clear hba
              go_wp2_with fail
              skip
              go_loopw [9] (fun i wr => ∃ q : Nat, a ≤ q ∧ q ≤ b + 1 ∧ i = .int .i64 q ∧ Hid (Rst w B (fun j => bit s j || decide (a ≤ j ∧ j < q)) wr)) (fun i _ => 256 - (intOf i).toNat)
              case atStart => exact ⟨a, by omega, by omega, rfl, Lib.hid (HS2.out.same fun j _ => by simp; omega)⟩
              case round =>
                clear HS2
                obtain ⟨q, hq1, hq2, rfl, HS5⟩ := hrel
                by_cases hlt5 : q ≤ b
                · have hst := HS5.out.cell q (by omega)
                  have hfz := HS5.out.free q (by omega)
                  go_wp2_with fail
                  go_roundw
                  case rel => exact ⟨q + 1, by omega, by omega, by go_num, Lib.hid (HS5.out.step q (by omega) (by omega))⟩
                  case measure => simp [intOf]; omega
                · have HS6 : Hid (Rst w B (bit (orW s (btw a (b + 1 - a)))) _) := Lib.hid (HS5.out.same fun j _ => by rw [bit_orW, bit_btw]; congr 1; rw [Bool.eq_iff_iff]; simp; omega)
                  clear HS5
                  go_wp2_with fail
                  go_roundg (L.length - (k + n + 1 + m))
                  case measure => omega
                  case rel => exact ⟨k + n + 1 + m, _, by omega, rfl, by go_num, Lib.hid (by rw [← HF.out]; exact (prs_two hlt HE.out HN0.out HD.out HE2.out HBA.out s).symm), Lib.hid (orW_W64 HW.out (btw_W64 _ _)), HS6⟩
        · have HD := Lib.hid h45
          by_cases hlt2 : k + n < L.length
          · obtain ⟨c, hc⟩ : ∃ c, L[k + n]? = some c := ⟨_, List.getElem?_eq_getElem hlt2⟩
            have hc2 : c < 256 := HL.out c (List.mem_of_getElem? hc)
            have i0 := strB_at L (k + n) c hc2 hc
            have c1 : ((c : Int) == 45) = false := beq_eq_false_iff_ne.2 (by intro e; apply h45; rw [hc]; congr 1; omega)
            clear h45 hc
            go_wp2_with fail
            skip
            go_loopw [9] (fun i wr => ∃ q : Nat, a ≤ q ∧ q ≤ a + 1 ∧ i = .int .i64 q ∧ Hid (Rst w B (fun j => bit s j || decide (a ≤ j ∧ j < q)) wr)) (fun i _ => 256 - (intOf i).toNat)
            case atStart => exact ⟨a, by omega, by omega, rfl, Lib.hid (HS1.out.same fun j _ => by simp; omega)⟩
            case round =>
              clear HS1
              obtain ⟨q, hq1, hq2, rfl, HS5⟩ := hrel
              by_cases hlt5 : q ≤ a
              · have hst := HS5.out.cell q (by omega)
                have hfz := HS5.out.free q (by omega)
                go_wp2_with fail
                go_roundw
                case rel => exact ⟨q + 1, by omega, by omega, by go_num, Lib.hid (HS5.out.step q (by omega) (by omega))⟩
                case measure => simp [intOf]; omega
              · have HS6 : Hid (Rst w B (bit (orW s (btw a 1))) _) := Lib.hid (HS5.out.same fun j _ => by rw [bit_orW, bit_btw]; congr 1; rw [Bool.eq_iff_iff]; simp; omega)
                clear HS5
                go_wp2_with fail
                go_roundg (L.length - (k + n))
                case measure => omega
                case rel => exact ⟨k + n, _, by omega, rfl, by go_num, Lib.hid (by rw [← HF.out]; exact (prs_one hlt HE.out HN0.out HD.out s).symm), Lib.hid (orW_W64 HW.out (btw_W64 _ _)), HS6⟩
          · have hge : L.length ≤ k + n := by omega
            clear h45 hlt2
            go_wp2_with fail
            skip
            go_loopw [9] (fun i wr => ∃ q : Nat, a ≤ q ∧ q ≤ a + 1 ∧ i = .int .i64 q ∧ Hid (Rst w B (fun j => bit s j || decide (a ≤ j ∧ j < q)) wr)) (fun i _ => 256 - (intOf i).toNat)
            case atStart => exact ⟨a, by omega, by omega, rfl, Lib.hid (HS1.out.same fun j _ => by simp; omega)⟩
            case round =>
              clear HS1
              obtain ⟨q, hq1, hq2, rfl, HS5⟩ := hrel
              by_cases hlt5 : q ≤ a
              · have hst := HS5.out.cell q (by omega)
                have hfz := HS5.out.free q (by omega)
                go_wp2_with fail
                go_roundw
                case rel => exact ⟨q + 1, by omega, by omega, by go_num, Lib.hid (HS5.out.step q (by omega) (by omega))⟩
                case measure => simp [intOf]; omega
              · have HS6 : Hid (Rst w B (bit (orW s (btw a 1))) _) := Lib.hid (HS5.out.same fun j _ => by rw [bit_orW, bit_btw]; congr 1; rw [Bool.eq_iff_iff]; simp; omega)
                clear HS5
                go_wp2_with fail
                go_roundg (L.length - (k + n))
                case measure => omega
                case rel => exact ⟨k + n, _, by omega, rfl, by go_num, Lib.hid (by rw [← HF.out]; exact (prs_one hlt HE.out HN0.out HD.out s).symm), Lib.hid (orW_W64 HW.out (btw_W64 _ _)), HS6⟩
    · have HR : Hid (prs L (fun _ => 0) = some s) := Lib.hid (by rw [← HF.out]; exact prs_end hlt s)
      go_wp2_with (first | (refine wpList_load_row rfl 29 _ rfl _ rfl _ _ _ _ HS.out.set Try.underlying29 rfl (i29 _) ?_; simp only [Act.put, List.setIfInBounds_toArray, List.set_cons_zero, List.set_cons_succ]) | (refine wpList_store_row rfl 29 _ _ rfl _ rfl _ rfl _ _ HS.out.res (i29 _) (by simp only [BV_size]) (BV_one _) ?_; simp only [Act.put, List.setIfInBounds_toArray, List.set_cons_zero, List.set_cons_succ]))
      have HZ := HS.out.final (bit s)
      exact bodyPost_ret (results_row_tmp rfl _ _ _ _ _ _ _ _ rfl rfl HZ.1 Try.underlying29 rfl (i29 _)) rfl ⟨by rw [HR.out]; rfl, by rw [← HBB.out]; exact HZ.2⟩
end Go.Proofs.Ytaagfmpolcpimaa
