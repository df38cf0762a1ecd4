/-
  The walk of letterset's Format: what it returns. Conditions: words of 64 bits.
-/
import Derived.Test.YtaagfmpolcpimaaStr
import Derived.Test.YtaagfmpolcpimaaWd
import Derived.Deep.LoopGhost
import Derived.Deep.CutBlock
import Derived.Deep.CutRange
import Derived.Deep.DeepCutAuto
namespace Go.Proofs.Ytaagfmpolcpimaa
open Go.RowKit
attribute [local go_sem] OneStep growAt growUpon
set_option maxHeartbeats 4000000
set_option maxRecDepth 100000
set_option linter.unusedSimpArgs false
set_option linter.unusedVariables false

/-- what the loops of Format keep: the set's block, the row of bytes, the old memory -/
structure Fst (w0 : World) (s : Nat → Nat) (B : Nat) (v : Value) (l : List Nat) (w : World) : Prop where
  set : w.heap[B]? = some (.cells (AV s) 24)
  row : ownsB w (B + 1) v l
  below : Below B w0 w
  at0 : B = w0.heap.size
theorem Fst.size {w0 : World} {s : Nat → Nat} {B : Nat} {v : Value} {l : List Nat} {w : World} (h : Fst w0 s B v l w) : B + 1 ≤ w.heap.size := lt_of_block h.set
theorem Fst.grew {w0 : World} {s : Nat → Nat} {B : Nat} {v : Value} {l : List Nat} {w w' : World} (h : Fst w0 s B v l w) (hg : Below w.heap.size w w') : Fst w0 s B v l w' :=
  ⟨block_below' hg h.set, own_grew h.row hg, h.below.trans (hg.mono (by have := h.size; omega)), h.at0⟩
theorem Fst.moved {w0 : World} {s : Nat → Nat} {B : Nat} {v v' : Value} {l l' : List Nat} {w w' : World} (h : Fst w0 s B v l w) (hr : ownsB w' (B + 1) v' l') (hg : Below (B + 1) w w') : Fst w0 s B v' l' w' :=
  ⟨block_below hg (by omega) h.set, hr, h.below.trans (hg.mono (by omega)), h.at0⟩

theorem piece0 (k : Nat) : piece k k = ltr k := by simp [piece]
theorem piece1 (k : Nat) : piece k (k + 1) = ltr k ++ ltr (k + 1) := by simp [piece]
theorem piece2 (k n : Nat) (h : k + 2 ≤ n) : piece k n = ltr k ++ [45] ++ ltr n := by simp [piece, show k + 1 < n by omega, show k < n by omega]
theorem fin_rel (s : Nat → Bool) (k n : Nat) (l F : List Nat) (hk : k < 256) (hF : l ++ fmt s k = F) (hN : s k = true) (hT : top s k = n) : l ++ piece k n ++ fmt s (n + 1) = F := by
  rw [← hF, fmt_yes s k hk hN, hT, List.append_assoc]

theorem format_c (s : Nat → Nat) (hs : W64 s) (w : World) :
    Calls Try.prog 19 #[.agg (AV s)] w fun e w' => e = .returned (.string (strB (fmt (bit s) 0))) ∧ Below w.heap.size w w' := by
  obtain ⟨i0, hi, hz0, hz1, hz2⟩ := info_parts info5
  obtain ⟨B, hBB⟩ : ∃ B, B = w.heap.size := ⟨_, rfl⟩
  go_enter Try.func19, Try.ntmps19
  go_wp2_with fail
  rw [← hBB]
  go_loopg [3, 4, 5] 256 (fun g v lo hi wr => ∃ (k : Nat) (l : List Nat), k ≤ 256 ∧ g = 256 - k ∧ lo = .int .i64 k ∧ Hid (l ++ fmt (bit s) k = fmt (bit s) 0) ∧ l.length ≤ 9 * k ∧ Hid (Fst w s B v l wr))
  case atStart => exact ⟨0, [], by omega, by omega, rfl, Lib.hid rfl, by simp, Lib.hid ⟨heap_at _ _ _ hBB, World.ownsRow_nil _ _ _ _, (by rw [hBB]; exact (Below.refl _ _).alloc (by simp) _), hBB⟩⟩
  case round =>
    obtain ⟨k, l, hk, rfl, rfl, HF, hl, HS⟩ := hrel
    have HBB := Lib.hid hBB
    clear hBB
    by_cases hlt : k < 256
    · cases hbit : bit s k with
      | false =>
        have HN := Lib.hid hbit
        go_wp2_with (first | (refine wpList_load_row rfl 24 _ rfl _ rfl _ _ _ _ HS.out.set Try.underlying24 rfl (i24 _) ?_; simp only [Act.put, List.setIfInBounds_toArray, List.set_cons_zero, List.set_cons_succ]) | (refine wpList_load_row_g (by rfl) 24 _ rfl _ rfl _ _ _ _ HS.out.set Try.underlying24 rfl (i24 _) ?_; simp only [Act.put, List.setIfInBounds_toArray, List.set_cons_zero, List.set_cons_succ]))
        refine (has_c _ hs k hlt _).mono ?_
        rintro e w1 ⟨rfl, hb1⟩
        have HS1 := Lib.hid (HS.out.grew hb1)
        clear hb1 HS
        rw [hbit]; clear hbit
        go_wp2
        go_roundg (256 - (k + 1))
        case measure => omega
        case rel => exact ⟨k + 1, l, by omega, rfl, by go_num, Lib.hid (by rw [← HF.out, fmt_no _ k hlt HN.out]), by omega, HS1⟩
      | true =>
        have HN := Lib.hid hbit
        go_wp2_with (first | (refine wpList_load_row rfl 24 _ rfl _ rfl _ _ _ _ HS.out.set Try.underlying24 rfl (i24 _) ?_; simp only [Act.put, List.setIfInBounds_toArray, List.set_cons_zero, List.set_cons_succ]) | (refine wpList_load_row_g (by rfl) 24 _ rfl _ rfl _ _ _ _ HS.out.set Try.underlying24 rfl (i24 _) ?_; simp only [Act.put, List.setIfInBounds_toArray, List.set_cons_zero, List.set_cons_succ]))
        refine (has_c _ hs k hlt _).mono ?_
        rintro e w1 ⟨rfl, hb1⟩
        have HS1 := Lib.hid (HS.out.grew hb1)
        clear hb1 HS
        rw [hbit]; clear hbit
        go_upto_block 2 with fail
        try rw [show decide ((k : Int) < 256) = true by simp; omega]
        go_cut [5] from 6 to 45 (fun h wx => ∃ n : Nat, k ≤ n ∧ n ≤ 255 ∧ h = .int .i64 n ∧ Hid (top (bit s) k = n) ∧ Hid (Fst w s B u3 l wx))
        case first =>
          go_wp2_with fail
          go_loopg [5] (256 - k) (fun g h wr2 => ∃ n : Nat, k ≤ n ∧ n ≤ 255 ∧ g = 256 - n ∧ h = .int .i64 n ∧ Hid (top (bit s) k = top (bit s) n) ∧ Hid (Fst w s B u3 l wr2))
          case atStart => exact ⟨k, by omega, by omega, rfl, rfl, Lib.hid rfl, HS1⟩
          case round =>
            clear HS1
            obtain ⟨n, hn1, hn2, rfl, rfl, HT0, HS2a⟩ := hrel
            by_cases hn : n < 255
            · cases hb2 : bit s (n + 1) with
              | true =>
                have HN2 := Lib.hid hb2
                go_wp2_with (first | (refine wpList_load_row rfl 24 _ rfl _ rfl _ _ _ _ HS2a.out.set Try.underlying24 rfl (i24 _) ?_; simp only [Act.put, List.setIfInBounds_toArray, List.set_cons_zero, List.set_cons_succ]) | (refine wpList_load_row_g (by rw [show decide ((n:Int) < 255) = true by simp; omega]; rfl) 24 _ rfl _ rfl _ _ _ _ HS2a.out.set Try.underlying24 rfl (i24 _) ?_; simp only [Act.put, List.setIfInBounds_toArray, List.set_cons_zero, List.set_cons_succ]))
                refine (has_c _ hs (n + 1) (by omega) _).mono ?_
                rintro e w2 ⟨rfl, hb⟩
                have HS2 := Lib.hid (HS2a.out.grew hb)
                clear hb HS2a
                rw [hb2]; clear hb2
                go_wp2_with fail
                go_roundg (256 - (n + 1))
                case measure => omega
                case rel => exact ⟨n + 1, by omega, by omega, rfl, by go_num, Lib.hid (by rw [HT0.out, top_yes _ n hn HN2.out]), HS2⟩
              | false =>
                have HT : Hid (top (bit s) k = n) := Lib.hid (by rw [HT0.out, top_no _ n (by simp [hb2])])
                go_wp2_with (first | (refine wpList_load_row rfl 24 _ rfl _ rfl _ _ _ _ HS2a.out.set Try.underlying24 rfl (i24 _) ?_; simp only [Act.put, List.setIfInBounds_toArray, List.set_cons_zero, List.set_cons_succ]) | (refine wpList_load_row_g (by rw [show decide ((n:Int) < 255) = true by simp; omega]; rfl) 24 _ rfl _ rfl _ _ _ _ HS2a.out.set Try.underlying24 rfl (i24 _) ?_; simp only [Act.put, List.setIfInBounds_toArray, List.set_cons_zero, List.set_cons_succ]))
                refine (has_c _ hs (n + 1) (by omega) _).mono ?_
                rintro e w2 ⟨rfl, hb⟩
                have HS2 := Lib.hid (HS2a.out.grew hb)
                clear hb HS2a HT0
                rw [hb2]; clear hb2
                go_wp2_with fail
                go_meet
                exact ⟨n, hn1, hn2, rfl, HT, HS2⟩
            · have HT : Hid (top (bit s) k = n) := Lib.hid (by rw [HT0.out, top_no _ n (by omega)])
              clear HT0
              go_wp2_with fail
              go_meet
              exact ⟨n, hn1, hn2, rfl, HT, HS2a⟩
        case rest =>
          clear HS1
          obtain ⟨n, hn1, hn2, rfl, HT, HS2⟩ := hcut
          by_cases hc0 : n = k
          · have hc0 := hc0.symm; subst hc0
            go_wp2_with fail
            refine (letter_c (B + 1) u3 l k hlt (by omega) _ HS2.out.size HS2.out.row).mono ?_
            rintro e w3 ⟨v3, rfl, ho3, hb3⟩
            have HS3 := Lib.hid (HS2.out.moved ho3 hb3)
            have hl3 : (l ++ ltr k).length ≤ 9 * k + 4 := by have := ltr_len k; simp; omega
            clear ho3 hb3 HS2
            go_wp2_with fail
            go_roundg (256 - (k + 1))
            case measure => omega
            case rel => exact ⟨k + 1, (l ++ ltr k), by omega, rfl, by go_num, Lib.hid (by have hh := fin_rel (bit s) k k l _ hlt HF.out HN.out HT.out; rw [piece0] at hh; simpa only [List.append_assoc] using hh), by omega, HS3⟩
          · by_cases hc1 : n = k + 1
            · subst hc1
              go_wp2_with fail
              refine (letter_c (B + 1) u3 l k hlt (by omega) _ HS2.out.size HS2.out.row).mono ?_
              rintro e w3 ⟨v3, rfl, ho3, hb3⟩
              have HS3 := Lib.hid (HS2.out.moved ho3 hb3)
              have hl3 : (l ++ ltr k).length ≤ 9 * k + 4 := by have := ltr_len k; simp; omega
              clear ho3 hb3 HS2
              have HS4 := HS3; clear HS3
              have hl4 : (l ++ ltr k).length ≤ 9 * k + 5 := by omega
              clear hl3
              go_wp2_with fail
              refine (letter_c (B + 1) v3 (l ++ ltr k) (k + 1) (by omega) (by omega) _ HS4.out.size HS4.out.row).mono ?_
              rintro e w5 ⟨v5, rfl, ho5, hb5⟩
              have HS5 := Lib.hid (HS4.out.moved ho5 hb5)
              have hl5 : ((l ++ ltr k) ++ ltr (k + 1)).length ≤ 9 * (k + 1) := by have := ltr_len (k + 1); simp at hl4 ⊢; omega
              clear ho5 hb5 HS4
              go_wp2_with fail
              go_roundg (256 - ((k + 1) + 1))
              case measure => omega
              case rel => exact ⟨(k + 1) + 1, ((l ++ ltr k) ++ ltr (k + 1)), by omega, rfl, by go_num, Lib.hid (by have hh := fin_rel (bit s) k (k + 1) l _ hlt HF.out HN.out HT.out; rw [piece1] at hh; simpa only [List.append_assoc] using hh), by omega, HS5⟩
            · have hc2 : k + 2 ≤ n := by omega
              clear hc0 hc1
              go_wp2_with fail
              refine (letter_c (B + 1) u3 l k hlt (by omega) _ HS2.out.size HS2.out.row).mono ?_
              rintro e w3 ⟨v3, rfl, ho3, hb3⟩
              have HS3 := Lib.hid (HS2.out.moved ho3 hb3)
              have hl3 : (l ++ ltr k).length ≤ 9 * k + 4 := by have := ltr_len k; simp; omega
              clear ho3 hb3 HS2
              go_wp2_with (at_builtin; refine wpList_append_own _ rfl _ _ 38 rfl (B + 1) 5 i0 (.int .u8 0) 1 1 Try.underlying38 hi hz0 hz1 hz2 rfl (by decide) _ _ _ rfl (HS3.out.row.alloc _) ⟨w3.heap.size, 0, none⟩ 1 1 (byV [45]) rfl (by simp [byV]) (cells_row (heap_at _ _ _ rfl)) (byV_one _) (by unfold maxLen; omega) (by omega) (by have := HS3.out.size; simp; omega) ?_; intro v4 w4 hown4 hg4 _)
              have HD := done_own w3 v3 (l ++ ltr k) (B + 1) [45] HS3.out.size HS3.out.row (grew_alloc _ _) hg4 hown4
              have HS4 := Lib.hid (HS3.out.moved HD.1 HD.2)
              clear HD hown4 hg4 HS3
              have hl4 : (l ++ ltr k ++ [45]).length ≤ 9 * k + 5 := by simp at hl3 ⊢; omega
              clear hl3
              go_wp2_with fail
              refine (letter_c (B + 1) v4 (l ++ ltr k ++ [45]) n (by omega) (by omega) _ HS4.out.size HS4.out.row).mono ?_
              rintro e w5 ⟨v5, rfl, ho5, hb5⟩
              have HS5 := Lib.hid (HS4.out.moved ho5 hb5)
              have hl5 : ((l ++ ltr k ++ [45]) ++ ltr n).length ≤ 9 * (k + 1) := by have := ltr_len n; simp at hl4 ⊢; omega
              clear ho5 hb5 HS4
              go_wp2_with fail
              go_roundg (256 - (n + 1))
              case measure => omega
              case rel => exact ⟨n + 1, ((l ++ ltr k ++ [45]) ++ ltr n), by omega, rfl, by go_num, Lib.hid (by have hh := fin_rel (bit s) k n l _ hlt HF.out HN.out HT.out; rw [piece2 k n (by omega)] at hh; simpa only [List.append_assoc] using hh), by omega, HS5⟩
    · have hk2 : k = 256 := by omega
      have HE : Hid (l = fmt (bit s) 0) := Lib.hid (by rw [← HF.out, hk2, fmt_end _ 256 (by omega), List.append_nil])
      go_wp2_with (first | (refine wpList_own_string rfl 38 9 _ rfl Try.underlying38 Try.underlying5 Try.underlying9 (B + 1) l (by rw [HE.out]; exact fmt_lt _ _) HS.out.row ?_; simp only [Act.put, List.setIfInBounds_toArray, List.set_cons_zero, List.set_cons_succ]))
      go_ret
      exact ⟨congrArg (fun x => Ending.returned (Value.string (strB x))) HE.out, by rw [← HBB.out]; exact HS.out.below⟩
end Go.Proofs.Ytaagfmpolcpimaa
