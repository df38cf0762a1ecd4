/-
  LettersetFormats: the law's walk: it returns true and writes nothing that was there. Conditions: words of 64 bits.
-/
import Derived.Test.YtaagfmpolcpimaaWg
import Derived.Test.YtaagfmpolcpimaaWi
import Derived.Test.YtaagfmpolcpimaaEq
namespace Go.Proofs.Ytaagfmpolcpimaa
open Go.RowKit
attribute [local go_sem] OneStep growAt growUpon
set_option maxHeartbeats 4000000
set_option maxRecDepth 100000
set_option linter.unusedSimpArgs false
set_option linter.unusedVariables false

/-- the notation again, by a count of steps: it can be reckoned -/
def topF (s : Nat → Bool) : Nat → Nat → Nat
  | 0, h => h
  | f + 1, h => if h < 255 ∧ s (h + 1) = true then topF s f (h + 1) else h
theorem topF_eq (s : Nat → Bool) : ∀ (f h : Nat), 255 ≤ f + h → topF s f h = top s h
  | 0, h, hf => by rw [top_no s h (by omega)]; rfl
  | f + 1, h, hf => by
    unfold topF
    split
    · rename_i hc; rw [top_yes s h hc.1 hc.2]; exact topF_eq s f (h + 1) (by omega)
    · rename_i hc; rw [top_no s h hc]
def fmtF (s : Nat → Bool) : Nat → Nat → List Nat
  | 0, _ => []
  | f + 1, k => if k < 256 then (if s k then piece k (topF s 255 k) ++ fmtF s f (topF s 255 k + 1) else fmtF s f (k + 1)) else []
theorem fmtF_eq (s : Nat → Bool) : ∀ (f k : Nat), 256 ≤ f + k → fmtF s f k = fmt s k
  | 0, k, hf => by rw [fmt_end s k (by omega)]; rfl
  | f + 1, k, hf => by
    unfold fmtF
    rw [topF_eq s 255 k (by omega)]
    by_cases hk : k < 256
    · rw [if_pos hk]
      cases hs : s k with
      | false => rw [if_neg (by simp), fmt_no s k hk hs]; exact fmtF_eq s f (k + 1) (by omega)
      | true =>
        rw [if_pos rfl, fmt_yes s k hk hs]
        have := top_ge s k
        rw [fmtF_eq s f (top s k + 1) (by omega)]
    · rw [if_neg hk, fmt_end s k (by omega)]
theorem fm_lit : fmtF (fun c => decide (c ∈ [45, 97, 98, 99, 120])) 256 0 = [92, 45, 97, 45, 99, 120] := by decide +kernel
theorem lit_fm : ∀ i, i < [45, 97, 98, 99, 120].length → (#[.int .u8 45, .int .u8 97, .int .u8 98, .int .u8 99, .int .u8 120] : Array Value)[i]? = some (.int .u8 ([45, 97, 98, 99, 120].getD i 0 : Nat)) := by
  intro i hi
  have : i = 0 ∨ i = 1 ∨ i = 2 ∨ i = 3 ∨ i = 4 := by simp at hi; omega
  rcases this with rfl | rfl | rfl | rfl | rfl <;> rfl
theorem formats_walk (s : Nat → Nat) (hs : W64 s) (w : World) : Calls Try.prog 5 #[.agg (AV s)] w fun e w' => e = .returned (.bool true) ∧ Below w.heap.size w w' := by
  have HQ : Hid (strB (fmt (bit (ofL [45, 97, 98, 99, 120])) 0) = ⟨#[92, 45, 97, 45, 99, 120]⟩) := Lib.hid (by
    have : bit (ofL [45, 97, 98, 99, 120]) = fun c => decide (c ∈ [45, 97, 98, 99, 120]) := funext fun c => bit_ofL _ c
    rw [this, ← fmtF_eq _ 256 0 (by omega), fm_lit]
    exact strB_eq _ _ rfl)
  go_enter Try.func5, Try.ntmps5
  go_wp2_with fail
  obtain ⟨B0, hB0⟩ : ∃ B0, B0 = w.heap.size := ⟨_, rfl⟩
  rw [← hB0]
  have H0 := Lib.hid (heap_at w (.cells (AV s) 24) B0 hB0)
  have HE := Lib.hid (grew_alloc w (.cells (AV s) 24))
  generalize w.alloc (.cells (AV s) 24) = w2 at H0 HE ⊢
  clear hB0
  refine wp_region_grows 12 [IsRow #[.int .u8 45, .int .u8 97, .int .u8 98, .int .u8 99, .int .u8 120] 5 5, IsV (.agg (AV (ofL [45, 97, 98, 99, 120]))), IsV (.string { data := #[92, 45, 97, 45, 99, 120] }), IsV (.bool true), IsV (.bool true), IsV (.agg (AV s)), IsV (.string (strB (fmt (bit s) 0))), IsV (.agg (AV s)), IsV (.agg (BV (bit s))), IsV (.string (strB (fmt (bit s) 0))), IsV (.bool true), IsV (.bool true)] []
    [[], [(0, 3)], [(1, 4)], [(2, 5)], [(3, 6)], [(4, 7)], [(4, 7), (5, 8)], [(4, 7)], [(4, 7), (7, 10)], [(4, 7), (8, 11)], [(4, 7), (6, 9), (9, 12)], [(4, 7), (10, 13)]] [(0, 3), (1, 4), (2, 5), (3, 6), (4, 7), (5, 8), (6, 9), (7, 10), (8, 11), (9, 12), (10, 13), (11, 14)] (by kernel_rfl) (by kernel_rfl) rfl ?stable ⟨?o0, ?o1, ?o2, ?o3, ?o4, ?o5, ?o6, ?o7, ?o8, ?o9, ?o10, ?o11, trivial⟩ ?fin
  case stable => exact ⟨IsRow.stable _ _ _, IsV.stable _, IsV.stable _, IsV.stable _, IsV.stable _, IsV.stable _, IsV.stable _, IsV.stable _, IsV.stable _, IsV.stable _, IsV.stable _, IsV.stable _, trivial⟩
  case o0 =>
    intro vals w' hg hd
    clear hd
    simp only [putS, List.foldl_nil]
    clear hg
    go_simp
    exact ⟨grew_alloc _ _, isRow_new _ _ _ _⟩
  case o1 =>
    intro vals w' hg hd
    obtain ⟨b0, h0, hb0⟩ := hd.1
    clear hd
    simp only [putS, List.foldl_nil, List.foldl_cons, Act.put, List.setIfInBounds_toArray, List.set_cons_zero, List.set_cons_succ, h0]
    have hrow := hb0
    clear hg h0 hb0
    go_simp
    exact (of_lit_c [45, 97, 98, 99, 120] (by simp) (by simp) _ 5 _ 5 w' hrow lit_fm).mono fun e w2 ⟨he, hb⟩ => ⟨_, he, hb, isV_mk _ _⟩
  case o2 =>
    intro vals w' hg hd
    have h1 : vals 1 = .agg (AV (ofL [45, 97, 98, 99, 120])) := hd.1
    clear hd
    simp only [putS, List.foldl_nil, List.foldl_cons, Act.put, List.setIfInBounds_toArray, List.set_cons_zero, List.set_cons_succ, h1]
    clear hg h1
    go_simp
    exact (format_c _ (ofL_W64 _) w').mono fun e w2 ⟨he, hb⟩ => ⟨_, he, hb, congrArg Value.string HQ.out⟩
  case o3 =>
    intro vals w' hg hd
    have h2 : vals 2 = .string { data := #[92, 45, 97, 45, 99, 120] } := hd.1
    clear hd
    simp only [putS, List.foldl_nil, List.foldl_cons, Act.put, List.setIfInBounds_toArray, List.set_cons_zero, List.set_cons_succ, h2]
    clear hg h2
    go_simp
    try go_bits
    exact isV_mk _ _
  case o4 =>
    intro vals w' hg hd
    have h3 : vals 3 = .bool true := hd.1
    clear hd
    simp only [putS, List.foldl_nil, List.foldl_cons, Act.put, List.setIfInBounds_toArray, List.set_cons_zero, List.set_cons_succ, h3]
    clear hg h3
    go_simp
    try go_bits
    exact isV_mk _ _
  case o5 =>
    intro vals w' hg hd
    have h4 : vals 4 = .bool true := hd.1
    clear hd
    simp only [putS, List.foldl_nil, List.foldl_cons, Act.put, List.setIfInBounds_toArray, List.set_cons_zero, List.set_cons_succ, h4]
    exact one_load_row (by rfl) _ _ rfl _ rfl _ _ _ _ (block_below' hg H0.out) Try.underlying24 rfl (i24 _) (isV_mk _ _)
  case o6 =>
    intro vals w' hg hd
    have h4 : vals 4 = .bool true := hd.1
    have h5 : vals 5 = .agg (AV s) := hd.2.1
    clear hd
    simp only [putS, List.foldl_nil, List.foldl_cons, Act.put, List.setIfInBounds_toArray, List.set_cons_zero, List.set_cons_succ, h4, h5]
    clear hg h4 h5
    go_simp
    exact (format_c s hs w').mono fun e w2 ⟨he, hb⟩ => ⟨_, he, hb, isV_mk _ _⟩
  case o7 =>
    intro vals w' hg hd
    have h4 : vals 4 = .bool true := hd.1
    clear hd
    simp only [putS, List.foldl_nil, List.foldl_cons, Act.put, List.setIfInBounds_toArray, List.set_cons_zero, List.set_cons_succ, h4]
    exact one_load_row (by rfl) _ _ rfl _ rfl _ _ _ _ (block_below' hg H0.out) Try.underlying24 rfl (i24 _) (isV_mk _ _)
  case o8 =>
    intro vals w' hg hd
    have h4 : vals 4 = .bool true := hd.1
    have h7 : vals 7 = .agg (AV s) := hd.2.1
    clear hd
    simp only [putS, List.foldl_nil, List.foldl_cons, Act.put, List.setIfInBounds_toArray, List.set_cons_zero, List.set_cons_succ, h4, h7]
    clear hg h4 h7
    go_simp
    exact (refOf_c s hs w').mono fun e w2 ⟨he, hb⟩ => ⟨_, he, hb, isV_mk _ _⟩
  case o9 =>
    intro vals w' hg hd
    have h4 : vals 4 = .bool true := hd.1
    have h8 : vals 8 = .agg (BV (bit s)) := hd.2.1
    clear hd
    simp only [putS, List.foldl_nil, List.foldl_cons, Act.put, List.setIfInBounds_toArray, List.set_cons_zero, List.set_cons_succ, h4, h8]
    clear hg h4 h8
    go_simp
    exact (refFormat_c (bit s) w').mono fun e w2 ⟨he, hb⟩ => ⟨_, he, hb, isV_mk _ _⟩
  case o10 =>
    intro vals w' hg hd
    have h4 : vals 4 = .bool true := hd.1
    have h6 : vals 6 = .string (strB (fmt (bit s) 0)) := hd.2.1
    have h9 : vals 9 = .string (strB (fmt (bit s) 0)) := hd.2.2.1
    clear hd
    simp only [putS, List.foldl_nil, List.foldl_cons, Act.put, List.setIfInBounds_toArray, List.set_cons_zero, List.set_cons_succ, h4, h6, h9]
    clear hg h4 h6 h9
    go_simp
    try go_bits
    exact isV_mk _ _
  case o11 =>
    intro vals w' hg hd
    have h4 : vals 4 = .bool true := hd.1
    have h10 : vals 10 = .bool true := hd.2.1
    clear hd
    simp only [putS, List.foldl_nil, List.foldl_cons, Act.put, List.setIfInBounds_toArray, List.set_cons_zero, List.set_cons_succ, h4, h10]
    clear hg h4 h10
    go_simp
    try go_bits
    exact isV_mk _ _
  case fin =>
    intro vals w' hg hd hfresh
    obtain ⟨b0, h0, hb0⟩ := hd.1
    have h1 : vals 1 = .agg (AV (ofL [45, 97, 98, 99, 120])) := hd.2.1
    have h2 : vals 2 = .string { data := #[92, 45, 97, 45, 99, 120] } := hd.2.2.1
    have h3 : vals 3 = .bool true := hd.2.2.2.1
    have h4 : vals 4 = .bool true := hd.2.2.2.2.1
    have h5 : vals 5 = .agg (AV s) := hd.2.2.2.2.2.1
    have h6 : vals 6 = .string (strB (fmt (bit s) 0)) := hd.2.2.2.2.2.2.1
    have h7 : vals 7 = .agg (AV s) := hd.2.2.2.2.2.2.2.1
    have h8 : vals 8 = .agg (BV (bit s)) := hd.2.2.2.2.2.2.2.2.1
    have h9 : vals 9 = .string (strB (fmt (bit s) 0)) := hd.2.2.2.2.2.2.2.2.2.1
    have h10 : vals 10 = .bool true := hd.2.2.2.2.2.2.2.2.2.2.1
    have h11 : vals 11 = .bool true := hd.2.2.2.2.2.2.2.2.2.2.2.1
    clear hd
    simp only [putS, List.foldl_nil, List.foldl_cons, Act.put, List.setIfInBounds_toArray, List.set_cons_zero, List.set_cons_succ, List.drop_succ_cons, List.drop_zero, h0, h1, h2, h3, h4, h5, h6, h7, h8, h9, h10, h11]
    have HEnd := Lib.hid (HE.out.trans hg)
    clear hg hfresh h0 h1 h2 h3 h4 h5 h6 h7 h8 h9 h10 h11 hb0
    go_wp2
    go_ret
    exact ⟨rfl, HEnd.out⟩
end Go.Proofs.Ytaagfmpolcpimaa
