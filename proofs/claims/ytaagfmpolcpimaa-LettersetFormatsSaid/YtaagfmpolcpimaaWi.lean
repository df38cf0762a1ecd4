/-
  The walk of the reference's Format: what it returns.
-/
import Derived.Test.YtaagfmpolcpimaaWh
import Derived.Test.YtaagfmpolcpimaaWe
import Derived.Deep.LoopGhost
import Derived.Deep.CutBlock
import Derived.Deep.CutRange
import Derived.Deep.DeepCutAuto
namespace Go.Proofs.Ytaagfmpolcpimaa
open Go.RowKit
attribute [local go_sem] OneStep growAt growUpon
set_option maxHeartbeats 4000000
set_option maxRecDepth 100000
set_option linter.unusedSimpArgs false
set_option linter.unusedVariables false

theorem rletter_c (b : Nat) (hb : b < 256) (w : World) :
    Calls Try.prog 32 #[.int .i64 b] w fun e w' => e = .returned (.string (strB (ltr b))) ∧ Below w.heap.size w w' := by
  by_cases c10 : b = 10
  · rw [show ltr b = [92, 110] by subst c10; rfl]; exact rletter_10 b hb w c10
  by_cases c9 : b = 9
  · rw [show ltr b = [92, 116] by subst c9; rfl]; exact rletter_9 b hb w c9
  by_cases c13 : b = 13
  · rw [show ltr b = [92, 114] by subst c13; rfl]; exact rletter_13 b hb w c13
  by_cases c32 : b < 32
  · rw [show ltr b = [92, 120, hexd (b / 16), hexd (b % 16)] by simp [ltr, c10, c9, c13, c32]]; exact rletter_lo b hb w c10 c9 c13 c32
  by_cases c126 : 126 < b
  · rw [show ltr b = [92, 120, hexd (b / 16), hexd (b % 16)] by simp [ltr, c10, c9, c13, c126]]; exact rletter_hi b hb w c126
  by_cases c92 : b = 92
  · rw [show ltr b = [92, 92] by subst c92; rfl]; exact rletter_92 b hb w c92
  by_cases c93 : b = 93
  · rw [show ltr b = [92, 93] by subst c93; rfl]; exact rletter_93 b hb w c93
  by_cases c45 : b = 45
  · rw [show ltr b = [92, 45] by subst c45; rfl]; exact rletter_45 b hb w c45
  by_cases c94 : b = 94
  · rw [show ltr b = [92, 94] by subst c94; rfl]; exact rletter_94 b hb w c94
  by_cases c91 : b = 91
  · rw [show ltr b = [92, 91] by subst c91; rfl]; exact rletter_91 b hb w c91
  rw [show ltr b = [b] by simp [ltr, c10, c9, c13, c32, c126, c92, c93, c45, c94, c91]]
  exact rletter_one b hb w (by omega) (by omega) c92 c93 c45 c94 c91

theorem rpiece0 (k : Nat) : piece k k = ltr k := by simp [piece]
theorem rpiece1 (k : Nat) : piece k (k + 1) = ltr k ++ ltr (k + 1) := by simp [piece]
theorem rpiece2 (k n : Nat) (h : k + 2 ≤ n) : piece k n = ltr k ++ [45] ++ ltr n := by simp [piece, show k + 1 < n by omega, show k < n by omega]
theorem rfin_rel (s : Nat → Bool) (k n : Nat) (l F : List Nat) (hk : k < 256) (hF : l ++ fmt s k = F) (hN : s k = true) (hT : top s k = n) : l ++ piece k n ++ fmt s (n + 1) = F := by
  rw [← hF, fmt_yes s k hk hN, hT, List.append_assoc]

/-- what the loops of the reference's Format keep -/
structure Rst (w0 : World) (m : Nat → Bool) (B : Nat) (w : World) : Prop where
  set : w.heap[B]? = some (.cells (BV m) 29)
  below : Below B w0 w
  at0 : B = w0.heap.size
theorem Rst.grew {w0 : World} {m : Nat → Bool} {B : Nat} {w w' : World} (h : Rst w0 m B w) (hg : Below w.heap.size w w') : Rst w0 m B w' :=
  ⟨block_below' hg h.set, h.below.trans (hg.mono (by have := lt_of_block h.set; omega)), h.at0⟩
theorem Rst.cell {w0 : World} {m : Nat → Bool} {B : Nat} {w : World} (h : Rst w0 m B w) (k : Nat) (hk : k < 256) : w.cell? ⟨B, k, none⟩ = some (.bool (m k)) := by
  rw [cell_of_row w B k _ _ _ h.set]; exact BV_get m k hk

theorem refFormat_c (m : Nat → Bool) (w : World) :
    Calls Try.prog 20 #[.agg (BV m)] w fun e w' => e = .returned (.string (strB (fmt m 0))) ∧ Below w.heap.size w w' := by
  obtain ⟨B, hBB⟩ : ∃ B, B = w.heap.size := ⟨_, rfl⟩
  go_enter Try.func20, Try.ntmps20
  go_wp2_with fail
  rw [← hBB]
  go_loopg [3, 4, 5] 256 (fun g v lo hi wr => ∃ (k : Nat) (l : List Nat), k ≤ 256 ∧ g = 256 - k ∧ v = .string (strB l) ∧ lo = .int .i64 k ∧ Hid (l ++ fmt m k = fmt m 0) ∧ l.length ≤ 9 * k ∧ Hid (Rst w m B wr))
  case atStart => exact ⟨0, [], by omega, by omega, by rw [strB_nil], rfl, Lib.hid rfl, by simp, Lib.hid ⟨heap_at _ _ _ hBB, (by rw [hBB]; exact (Below.refl _ _).alloc (by simp) _), hBB⟩⟩
  case round =>
    obtain ⟨k, l, hk, rfl, rfl, rfl, HF, hl, HS⟩ := hrel
    have HBB := Lib.hid hBB
    clear hBB
    by_cases hlt : k < 256
    · cases hbit : m k with
      | false =>
        have HN := Lib.hid hbit
        have hcell := HS.out.cell k hlt
        rw [hbit] at hcell; clear hbit
        go_wp2
        clear hcell
        go_roundg (256 - (k + 1))
        case measure => omega
        case rel => exact ⟨k + 1, l, by omega, rfl, rfl, by go_num, Lib.hid (by rw [← HF.out, fmt_no _ k hlt HN.out]), by omega, HS⟩
      | true =>
        have HN := Lib.hid hbit
        have hcell := HS.out.cell k hlt
        rw [hbit] at hcell; clear hbit
        go_upto_block 2 with fail
        rw [show decide ((k : Int) < 256) = true by simp; omega]
        clear hcell
        go_cut [5] from 6 to 42 (fun h wx => ∃ n : Nat, k ≤ n ∧ n ≤ 255 ∧ h = .int .i64 n ∧ Hid (top m k = n) ∧ Hid (Rst w m B wx))
        case first =>
          go_wp2_with fail
          go_loopg [5] (256 - k) (fun g h wr2 => ∃ n : Nat, k ≤ n ∧ n ≤ 255 ∧ g = 256 - n ∧ h = .int .i64 n ∧ Hid (top m k = top m n) ∧ Hid (Rst w m B wr2))
          case atStart => exact ⟨k, by omega, by omega, by omega, rfl, Lib.hid rfl, HS⟩
          case round =>
            obtain ⟨n, hn1, hn2, rfl, rfl, HT0, HS2⟩ := hrel
            by_cases hn : n < 255
            · cases hb2 : m (n + 1) with
              | true =>
                have HN2 := Lib.hid hb2
                have hcell := HS2.out.cell (n + 1) (by omega)
                rw [hb2] at hcell; clear hb2
                go_wp2
                clear hcell
                go_roundg (256 - (n + 1))
                case measure => omega
                case rel => exact ⟨n + 1, by omega, by omega, rfl, by go_num, Lib.hid (by rw [HT0.out, top_yes _ n hn HN2.out]), HS2⟩
              | false =>
                have HT : Hid (top m k = n) := Lib.hid (by rw [HT0.out, top_no _ n (by simp [hb2])])
                have hcell := HS2.out.cell (n + 1) (by omega)
                rw [hb2] at hcell; clear hb2 HT0
                go_wp2
                clear hcell
                go_meet
                exact ⟨n, hn1, hn2, rfl, HT, HS2⟩
            · have HT : Hid (top m k = n) := Lib.hid (by rw [HT0.out, top_no _ n (by omega)])
              clear HT0
              go_wp2
              go_meet
              exact ⟨n, hn1, hn2, rfl, HT, HS2⟩
        case rest =>
          clear HS
          obtain ⟨n, hn1, hn2, rfl, HT, HS⟩ := hcut
          by_cases hc0 : n = k
          · have hc0 := hc0.symm; subst hc0
            go_wp2_with fail
            refine (rletter_c k hlt _).mono ?_
            rintro e w3 ⟨rfl, hb3⟩
            have HS3 := Lib.hid (HS.out.grew hb3)
            have hl3 := ltr_len k
            clear hb3 HS
            go_wp2_with (first | (refine wpList_concat rfl 9 9 (.tmp 25) _ rfl l (ltr k) rfl rfl (by first | omega | (simp; omega)) ?_; simp only [Act.put, List.setIfInBounds_toArray, List.set_cons_zero, List.set_cons_succ]))
            go_roundg (256 - (k + 1))
            case measure => omega
            case rel => exact ⟨k + 1, (l ++ ltr k), by omega, rfl, rfl, by go_num, Lib.hid (by have hh := rfin_rel m k k l _ hlt HF.out HN.out HT.out; rw [rpiece0] at hh; simpa only [List.append_assoc] using hh), by simp; omega, HS3⟩
          · by_cases hc1 : n = k + 1
            · subst hc1
              go_wp2_with fail
              refine (rletter_c k hlt _).mono ?_
              rintro e w3 ⟨rfl, hb3⟩
              have HS3 := Lib.hid (HS.out.grew hb3)
              have hl3 := ltr_len k
              clear hb3 HS
              go_wp2_with (first | (refine wpList_concat rfl 9 9 (.tmp 25) _ rfl l (ltr k) rfl rfl (by first | omega | (simp; omega)) ?_; simp only [Act.put, List.setIfInBounds_toArray, List.set_cons_zero, List.set_cons_succ]))
              refine (rletter_c (k + 1) (by omega) _).mono ?_
              rintro e w4 ⟨rfl, hb4⟩
              have HS4 := Lib.hid (HS3.out.grew hb4)
              have hl4 := ltr_len (k + 1)
              clear hb4 HS3
              go_wp2_with (refine wpList_concat rfl 9 9 (.tmp 38) _ rfl (l ++ ltr k) (ltr (k + 1)) rfl rfl (by first | omega | (simp; omega)) ?_; simp only [Act.put, List.setIfInBounds_toArray, List.set_cons_zero, List.set_cons_succ])
              go_roundg (256 - ((k + 1) + 1))
              case measure => omega
              case rel => exact ⟨(k + 1) + 1, ((l ++ ltr k) ++ ltr (k + 1)), by omega, rfl, rfl, by go_num, Lib.hid (by have hh := rfin_rel m k (k + 1) l _ hlt HF.out HN.out HT.out; rw [rpiece1] at hh; simpa only [List.append_assoc] using hh), by simp; omega, HS4⟩
            · have hc2 : k + 2 ≤ n := by omega
              clear hc0 hc1
              go_wp2_with fail
              refine (rletter_c k hlt _).mono ?_
              rintro e w3 ⟨rfl, hb3⟩
              have HS3 := Lib.hid (HS.out.grew hb3)
              have hl3 := ltr_len k
              clear hb3 HS
              go_wp2_with (first | (refine wpList_concat rfl 9 9 (.tmp 25) _ rfl l (ltr k) rfl rfl (by first | omega | (simp; omega)) ?_; simp only [Act.put, List.setIfInBounds_toArray, List.set_cons_zero, List.set_cons_succ]) | (refine wpList_concat rfl 9 9 (.tmp 33) _ rfl (l ++ ltr k) [45] rfl (by exact congrArg Value.string (strB_eq [45] _ rfl).symm) (by first | omega | (simp; omega)) ?_; simp only [Act.put, List.setIfInBounds_toArray, List.set_cons_zero, List.set_cons_succ]))
              refine (rletter_c n (by omega) _).mono ?_
              rintro e w4 ⟨rfl, hb4⟩
              have HS4 := Lib.hid (HS3.out.grew hb4)
              have hl4 := ltr_len n
              clear hb4 HS3
              go_wp2_with (refine wpList_concat rfl 9 9 (.tmp 38) _ rfl (l ++ (ltr k ++ [45])) (ltr n) rfl rfl (by first | omega | (simp; omega)) ?_; simp only [Act.put, List.setIfInBounds_toArray, List.set_cons_zero, List.set_cons_succ])
              go_roundg (256 - (n + 1))
              case measure => omega
              case rel => exact ⟨n + 1, ((l ++ (ltr k ++ [45])) ++ ltr n), by omega, rfl, rfl, by go_num, Lib.hid (by have hh := rfin_rel m k n l _ hlt HF.out HN.out HT.out; rw [rpiece2 k n (by omega)] at hh; simpa only [List.append_assoc] using hh), by simp; omega, HS4⟩
    · have hk2 : k = 256 := by omega
      have HE : Hid (l = fmt m 0) := Lib.hid (by rw [← HF.out, hk2, fmt_end _ 256 (by omega), List.append_nil])
      go_wp2
      go_ret
      exact ⟨congrArg (fun x => Ending.returned (Value.string (strB x))) HE.out, by rw [← HBB.out]; exact HS.out.below⟩
end Go.Proofs.Ytaagfmpolcpimaa
