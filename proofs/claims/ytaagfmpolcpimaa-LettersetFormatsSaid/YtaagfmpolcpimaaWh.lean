/-
  The walk of the reference's letter: the string that it returns. Conditions: a letter below 256.
-/
import Derived.Test.YtaagfmpolcpimaaStr
namespace Go.Proofs.Ytaagfmpolcpimaa
open Go.RowKit
attribute [local go_sem] OneStep growAt growUpon
set_option maxHeartbeats 400000
set_option maxRecDepth 100000
set_option linter.unusedSimpArgs false
set_option linter.unusedVariables false

theorem strB_eq (l : List Nat) (a : Array UInt8) (h : (l.map UInt8.ofNat).toArray = a) : strB l = ⟨a⟩ := by
  unfold strB; rw [h]
/-- a new row of bytes is the call's own -/
theorem own_new (w : World) (l : List Nat) (hl : l.length ≤ maxLen) : ownsB (w.alloc (.cells (byV l).toArray 5)) w.heap.size (.slice (some ⟨w.heap.size, 0, none⟩) l.length l.length) l :=
  ⟨by simp [byV], .inr ⟨w.heap.size, l.length, _, rfl, Nat.le_refl _, heap_at _ _ _ rfl, Nat.le_refl _, hl, by simp [byV], List.take_of_length_le (by simp [byV])⟩⟩
theorem cat_eq {x : ByteArray} {l m n : List Nat} (hx : x = strB l) (hn : l ++ m = n) : x ++ strB m = strB n := by
  rw [hx, strB_append, hn]
theorem hex_cut (i j : Int) (k : Nat) (w : World) (hk : k < 16) (hi : i.toNat = k) (hj : j.toNat = k + 1) :
    IsV (Value.string (strB [hexd k])) (Value.string (({ data := #[48, 49, 50, 51, 52, 53, 54, 55, 56, 57, 97, 98, 99, 100, 101, 102] } : ByteArray).extract i.toNat j.toNat)) w := by
  rw [hi, hj]
  unfold IsV strB
  have h : ∀ k : Nat, k < 16 → (({ data := #[48, 49, 50, 51, 52, 53, 54, 55, 56, 57, 97, 98, 99, 100, 101, 102] } : ByteArray).extract k (k + 1)).data = (List.map UInt8.ofNat [hexd k]).toArray := by decide
  exact congrArg Value.string (ByteArray.ext (h k hk))
theorem rletter_10 (b : Nat) (hb : b < 256) (w : World) (c : b = 10) :
    Calls Try.prog 32 #[.int .i64 b] w fun e w' => e = .returned (.string (strB [92, 110])) ∧ Below w.heap.size w w' := by
  go_enter Try.func32, Try.ntmps32
  go_wp2
  go_ret
  exact ⟨congrArg (fun x => Ending.returned (Value.string x)) (strB_eq [92, 110] _ rfl).symm, Below.refl _ _⟩

theorem rletter_9 (b : Nat) (hb : b < 256) (w : World) (c : b = 9) :
    Calls Try.prog 32 #[.int .i64 b] w fun e w' => e = .returned (.string (strB [92, 116])) ∧ Below w.heap.size w w' := by
  go_enter Try.func32, Try.ntmps32
  go_wp2
  go_ret
  exact ⟨congrArg (fun x => Ending.returned (Value.string x)) (strB_eq [92, 116] _ rfl).symm, Below.refl _ _⟩

theorem rletter_13 (b : Nat) (hb : b < 256) (w : World) (c : b = 13) :
    Calls Try.prog 32 #[.int .i64 b] w fun e w' => e = .returned (.string (strB [92, 114])) ∧ Below w.heap.size w w' := by
  go_enter Try.func32, Try.ntmps32
  go_wp2
  go_ret
  exact ⟨congrArg (fun x => Ending.returned (Value.string x)) (strB_eq [92, 114] _ rfl).symm, Below.refl _ _⟩

theorem rletter_92 (b : Nat) (hb : b < 256) (w : World) (c : b = 92) :
    Calls Try.prog 32 #[.int .i64 b] w fun e w' => e = .returned (.string (strB [92, 92])) ∧ Below w.heap.size w w' := by
  go_enter Try.func32, Try.ntmps32
  go_wp2_with (first | (refine wpList_own_string rfl 38 9 _ rfl Try.underlying38 Try.underlying5 Try.underlying9 w.heap.size [92] (by intro x hx; simp at hx; omega) (own_new w [92] (by simp [maxLen])) ?_; simp only [Act.put, List.setIfInBounds_toArray, List.set_cons_zero, List.set_cons_succ]) | (refine wpList_concat rfl 9 9 _ _ rfl [92] [92] (by exact congrArg Value.string (strB_eq [92] _ rfl).symm) rfl (by simp) ?_; simp only [Act.put, List.setIfInBounds_toArray, List.set_cons_zero, List.set_cons_succ]))
  go_ret
  exact ⟨rfl, grew_alloc _ _⟩

theorem rletter_93 (b : Nat) (hb : b < 256) (w : World) (c : b = 93) :
    Calls Try.prog 32 #[.int .i64 b] w fun e w' => e = .returned (.string (strB [92, 93])) ∧ Below w.heap.size w w' := by
  go_enter Try.func32, Try.ntmps32
  go_wp2_with (first | (refine wpList_own_string rfl 38 9 _ rfl Try.underlying38 Try.underlying5 Try.underlying9 w.heap.size [93] (by intro x hx; simp at hx; omega) (own_new w [93] (by simp [maxLen])) ?_; simp only [Act.put, List.setIfInBounds_toArray, List.set_cons_zero, List.set_cons_succ]) | (refine wpList_concat rfl 9 9 _ _ rfl [92] [93] (by exact congrArg Value.string (strB_eq [92] _ rfl).symm) rfl (by simp) ?_; simp only [Act.put, List.setIfInBounds_toArray, List.set_cons_zero, List.set_cons_succ]))
  go_ret
  exact ⟨rfl, grew_alloc _ _⟩

theorem rletter_45 (b : Nat) (hb : b < 256) (w : World) (c : b = 45) :
    Calls Try.prog 32 #[.int .i64 b] w fun e w' => e = .returned (.string (strB [92, 45])) ∧ Below w.heap.size w w' := by
  go_enter Try.func32, Try.ntmps32
  go_wp2_with (first | (refine wpList_own_string rfl 38 9 _ rfl Try.underlying38 Try.underlying5 Try.underlying9 w.heap.size [45] (by intro x hx; simp at hx; omega) (own_new w [45] (by simp [maxLen])) ?_; simp only [Act.put, List.setIfInBounds_toArray, List.set_cons_zero, List.set_cons_succ]) | (refine wpList_concat rfl 9 9 _ _ rfl [92] [45] (by exact congrArg Value.string (strB_eq [92] _ rfl).symm) rfl (by simp) ?_; simp only [Act.put, List.setIfInBounds_toArray, List.set_cons_zero, List.set_cons_succ]))
  go_ret
  exact ⟨rfl, grew_alloc _ _⟩

theorem rletter_94 (b : Nat) (hb : b < 256) (w : World) (c : b = 94) :
    Calls Try.prog 32 #[.int .i64 b] w fun e w' => e = .returned (.string (strB [92, 94])) ∧ Below w.heap.size w w' := by
  go_enter Try.func32, Try.ntmps32
  go_wp2_with (first | (refine wpList_own_string rfl 38 9 _ rfl Try.underlying38 Try.underlying5 Try.underlying9 w.heap.size [94] (by intro x hx; simp at hx; omega) (own_new w [94] (by simp [maxLen])) ?_; simp only [Act.put, List.setIfInBounds_toArray, List.set_cons_zero, List.set_cons_succ]) | (refine wpList_concat rfl 9 9 _ _ rfl [92] [94] (by exact congrArg Value.string (strB_eq [92] _ rfl).symm) rfl (by simp) ?_; simp only [Act.put, List.setIfInBounds_toArray, List.set_cons_zero, List.set_cons_succ]))
  go_ret
  exact ⟨rfl, grew_alloc _ _⟩

theorem rletter_91 (b : Nat) (hb : b < 256) (w : World) (c : b = 91) :
    Calls Try.prog 32 #[.int .i64 b] w fun e w' => e = .returned (.string (strB [92, 91])) ∧ Below w.heap.size w w' := by
  go_enter Try.func32, Try.ntmps32
  go_wp2_with (first | (refine wpList_own_string rfl 38 9 _ rfl Try.underlying38 Try.underlying5 Try.underlying9 w.heap.size [91] (by intro x hx; simp at hx; omega) (own_new w [91] (by simp [maxLen])) ?_; simp only [Act.put, List.setIfInBounds_toArray, List.set_cons_zero, List.set_cons_succ]) | (refine wpList_concat rfl 9 9 _ _ rfl [92] [91] (by exact congrArg Value.string (strB_eq [92] _ rfl).symm) rfl (by simp) ?_; simp only [Act.put, List.setIfInBounds_toArray, List.set_cons_zero, List.set_cons_succ]))
  go_ret
  exact ⟨rfl, grew_alloc _ _⟩

theorem rletter_one (b : Nat) (hb : b < 256) (w : World) (c32 : 32 ≤ b) (c126 : b ≤ 126) (c92 : b ≠ 92) (c93 : b ≠ 93) (c45 : b ≠ 45) (c94 : b ≠ 94) (c91 : b ≠ 91) :
    Calls Try.prog 32 #[.int .i64 b] w fun e w' => e = .returned (.string (strB [b])) ∧ Below w.heap.size w w' := by
  go_enter Try.func32, Try.ntmps32
  have e92 : ((b : Int) == 92) = false := by simp; omega
  have e93 : ((b : Int) == 93) = false := by simp; omega
  have e45 : ((b : Int) == 45) = false := by simp; omega
  have e94 : ((b : Int) == 94) = false := by simp; omega
  have e91 : ((b : Int) == 91) = false := by simp; omega
  go_wp2_with (first | (refine wpList_own_string rfl 38 9 _ rfl Try.underlying38 Try.underlying5 Try.underlying9 w.heap.size [b] (by intro x hx; simp at hx; omega) (own_new w [b] (by simp [maxLen])) ?_; simp only [Act.put, List.setIfInBounds_toArray, List.set_cons_zero, List.set_cons_succ]))
  go_ret
  exact ⟨rfl, grew_alloc _ _⟩

theorem rletter_lo (b : Nat) (hb : b < 256) (w : World) (c10 : b ≠ 10) (c9 : b ≠ 9) (c13 : b ≠ 13) (c32 : b < 32) :
    Calls Try.prog 32 #[.int .i64 b] w fun e w' => e = .returned (.string (strB [92, 120, hexd (b / 16), hexd (b % 16)])) ∧ Below w.heap.size w w' := by
  go_enter Try.func32, Try.ntmps32
  have e92 : ((b : Int) == 92) = false := by simp; omega
  have e93 : ((b : Int) == 93) = false := by simp; omega
  have e45 : ((b : Int) == 45) = false := by simp; omega
  have e94 : ((b : Int) == 94) = false := by simp; omega
  have e91 : ((b : Int) == 91) = false := by simp; omega
  go_wp2_with fail
  refine wp_region_grows 16 [IsV (.string { data := #[48, 49, 50, 51, 52, 53, 54, 55, 56, 57, 97, 98, 99, 100, 101, 102] }), IsV (.int .i64 b), IsV (.int .i64 (b / 16 : Nat)), IsV (.int .i64 b), IsV (.int .i64 (b / 16 : Nat)), IsV (.int .i64 (b / 16 + 1 : Nat)), IsV (.string (strB [hexd (b / 16)])), IsV (.string (strB [92, 120, hexd (b / 16)])), IsV (.string { data := #[48, 49, 50, 51, 52, 53, 54, 55, 56, 57, 97, 98, 99, 100, 101, 102] }), IsV (.int .i64 b), IsV (.int .i64 (b % 16 : Nat)), IsV (.int .i64 b), IsV (.int .i64 (b % 16 : Nat)), IsV (.int .i64 (b % 16 + 1 : Nat)), IsV (.string (strB [hexd (b % 16)])), IsV (.string (strB [92, 120, hexd (b / 16), hexd (b % 16)]))] []
    [[], [], [(1, 49)], [], [(3, 51)], [(4, 52)], [(0, 48), (2, 50), (5, 53)], [(6, 54)], [], [], [(9, 57)], [], [(11, 59)], [(12, 60)], [(8, 56), (10, 58), (13, 61)], [(7, 55), (14, 62)]] [(0, 48), (1, 49), (2, 50), (3, 51), (4, 52), (5, 53), (6, 54), (7, 55), (8, 56), (9, 57), (10, 58), (11, 59), (12, 60), (13, 61), (14, 62), (15, 63)] (by kernel_rfl) (by kernel_rfl) rfl ?stable ⟨?o0, ?o1, ?o2, ?o3, ?o4, ?o5, ?o6, ?o7, ?o8, ?o9, ?o10, ?o11, ?o12, ?o13, ?o14, ?o15, trivial⟩ ?fin
  case stable => exact ⟨IsV.stable _, IsV.stable _, IsV.stable _, IsV.stable _, IsV.stable _, IsV.stable _, IsV.stable _, IsV.stable _, IsV.stable _, IsV.stable _, IsV.stable _, IsV.stable _, IsV.stable _, IsV.stable _, IsV.stable _, IsV.stable _, trivial⟩
  case o0 =>
    intro vals w' hg hd
    clear hd
    simp only [putS, List.foldl_nil]
    go_simp
    try go_bits
    exact isV_mk _ _
  case o1 =>
    intro vals w' hg hd
    clear hd
    simp only [putS, List.foldl_nil]
    go_simp
    try go_bits
    exact isV_mk _ _
  case o2 =>
    intro vals w' hg hd
    have h1 : vals 1 = .int .i64 b := hd.1
    clear hd
    simp only [putS, List.foldl_nil, List.foldl_cons, Act.put, List.setIfInBounds_toArray, List.set_cons_zero, List.set_cons_succ, h1]
    go_simp
    try go_bits
    exact isV_mk _ _
  case o3 =>
    intro vals w' hg hd
    clear hd
    simp only [putS, List.foldl_nil]
    go_simp
    try go_bits
    exact isV_mk _ _
  case o4 =>
    intro vals w' hg hd
    have h3 : vals 3 = .int .i64 b := hd.1
    clear hd
    simp only [putS, List.foldl_nil, List.foldl_cons, Act.put, List.setIfInBounds_toArray, List.set_cons_zero, List.set_cons_succ, h3]
    go_simp
    try go_bits
    exact isV_mk _ _
  case o5 =>
    intro vals w' hg hd
    have h4 : vals 4 = .int .i64 (b / 16 : Nat) := hd.1
    clear hd
    simp only [putS, List.foldl_nil, List.foldl_cons, Act.put, List.setIfInBounds_toArray, List.set_cons_zero, List.set_cons_succ, h4]
    go_simp
    try go_bits
    exact isV_mk _ _
  case o6 =>
    intro vals w' hg hd
    have h0 : vals 0 = .string { data := #[48, 49, 50, 51, 52, 53, 54, 55, 56, 57, 97, 98, 99, 100, 101, 102] } := hd.1
    have h2 : vals 2 = .int .i64 (b / 16 : Nat) := hd.2.1
    have h5 : vals 5 = .int .i64 (b / 16 + 1 : Nat) := hd.2.2.1
    clear hd
    simp only [putS, List.foldl_nil, List.foldl_cons, Act.put, List.setIfInBounds_toArray, List.set_cons_zero, List.set_cons_succ, h0, h2, h5]
    clear hg
    go_simp
    rw [run_slice_string (P := Try.prog) _ 9 _ .i64 .i64 _ _ Try.underlying9 (by omega) (by omega) (by simp [ByteArray.size]; omega)]
    exact ⟨Below.refl _ _, hex_cut _ _ _ _ (by omega) (by omega) (by omega)⟩
  case o7 =>
    intro vals w' hg hd
    have h6 : vals 6 = .string (strB [hexd (b / 16)]) := hd.1
    clear hd
    simp only [putS, List.foldl_nil, List.foldl_cons, Act.put, List.setIfInBounds_toArray, List.set_cons_zero, List.set_cons_succ, h6]
    clear hg
    go_simp
    rw [if_neg (by simp only [strB_size, List.length_cons, List.length_nil]; omega)]
    exact ⟨Below.refl _ _, congrArg Value.string (cat_eq (by first | rfl | exact (strB_eq [92, 120] _ rfl).symm) rfl)⟩
  case o8 =>
    intro vals w' hg hd
    clear hd
    simp only [putS, List.foldl_nil]
    go_simp
    try go_bits
    exact isV_mk _ _
  case o9 =>
    intro vals w' hg hd
    clear hd
    simp only [putS, List.foldl_nil]
    go_simp
    try go_bits
    exact isV_mk _ _
  case o10 =>
    intro vals w' hg hd
    have h9 : vals 9 = .int .i64 b := hd.1
    clear hd
    simp only [putS, List.foldl_nil, List.foldl_cons, Act.put, List.setIfInBounds_toArray, List.set_cons_zero, List.set_cons_succ, h9]
    go_simp
    try go_bits
    exact isV_mk _ _
  case o11 =>
    intro vals w' hg hd
    clear hd
    simp only [putS, List.foldl_nil]
    go_simp
    try go_bits
    exact isV_mk _ _
  case o12 =>
    intro vals w' hg hd
    have h11 : vals 11 = .int .i64 b := hd.1
    clear hd
    simp only [putS, List.foldl_nil, List.foldl_cons, Act.put, List.setIfInBounds_toArray, List.set_cons_zero, List.set_cons_succ, h11]
    go_simp
    try go_bits
    exact isV_mk _ _
  case o13 =>
    intro vals w' hg hd
    have h12 : vals 12 = .int .i64 (b % 16 : Nat) := hd.1
    clear hd
    simp only [putS, List.foldl_nil, List.foldl_cons, Act.put, List.setIfInBounds_toArray, List.set_cons_zero, List.set_cons_succ, h12]
    go_simp
    try go_bits
    exact isV_mk _ _
  case o14 =>
    intro vals w' hg hd
    have h8 : vals 8 = .string { data := #[48, 49, 50, 51, 52, 53, 54, 55, 56, 57, 97, 98, 99, 100, 101, 102] } := hd.1
    have h10 : vals 10 = .int .i64 (b % 16 : Nat) := hd.2.1
    have h13 : vals 13 = .int .i64 (b % 16 + 1 : Nat) := hd.2.2.1
    clear hd
    simp only [putS, List.foldl_nil, List.foldl_cons, Act.put, List.setIfInBounds_toArray, List.set_cons_zero, List.set_cons_succ, h8, h10, h13]
    clear hg
    go_simp
    rw [run_slice_string (P := Try.prog) _ 9 _ .i64 .i64 _ _ Try.underlying9 (by omega) (by omega) (by simp [ByteArray.size]; omega)]
    exact ⟨Below.refl _ _, hex_cut _ _ _ _ (by omega) (by omega) (by omega)⟩
  case o15 =>
    intro vals w' hg hd
    have h7 : vals 7 = .string (strB [92, 120, hexd (b / 16)]) := hd.1
    have h14 : vals 14 = .string (strB [hexd (b % 16)]) := hd.2.1
    clear hd
    simp only [putS, List.foldl_nil, List.foldl_cons, Act.put, List.setIfInBounds_toArray, List.set_cons_zero, List.set_cons_succ, h7, h14]
    clear hg
    go_simp
    rw [if_neg (by simp only [strB_size, List.length_cons, List.length_nil]; omega)]
    exact ⟨Below.refl _ _, congrArg Value.string (cat_eq (by first | rfl | exact (strB_eq [92, 120] _ rfl).symm) rfl)⟩
  case fin =>
    intro vals w' hg hd hfresh
    have h0 : vals 0 = .string { data := #[48, 49, 50, 51, 52, 53, 54, 55, 56, 57, 97, 98, 99, 100, 101, 102] } := hd.1
    have h1 : vals 1 = .int .i64 b := hd.2.1
    have h2 : vals 2 = .int .i64 (b / 16 : Nat) := hd.2.2.1
    have h3 : vals 3 = .int .i64 b := hd.2.2.2.1
    have h4 : vals 4 = .int .i64 (b / 16 : Nat) := hd.2.2.2.2.1
    have h5 : vals 5 = .int .i64 (b / 16 + 1 : Nat) := hd.2.2.2.2.2.1
    have h6 : vals 6 = .string (strB [hexd (b / 16)]) := hd.2.2.2.2.2.2.1
    have h7 : vals 7 = .string (strB [92, 120, hexd (b / 16)]) := hd.2.2.2.2.2.2.2.1
    have h8 : vals 8 = .string { data := #[48, 49, 50, 51, 52, 53, 54, 55, 56, 57, 97, 98, 99, 100, 101, 102] } := hd.2.2.2.2.2.2.2.2.1
    have h9 : vals 9 = .int .i64 b := hd.2.2.2.2.2.2.2.2.2.1
    have h10 : vals 10 = .int .i64 (b % 16 : Nat) := hd.2.2.2.2.2.2.2.2.2.2.1
    have h11 : vals 11 = .int .i64 b := hd.2.2.2.2.2.2.2.2.2.2.2.1
    have h12 : vals 12 = .int .i64 (b % 16 : Nat) := hd.2.2.2.2.2.2.2.2.2.2.2.2.1
    have h13 : vals 13 = .int .i64 (b % 16 + 1 : Nat) := hd.2.2.2.2.2.2.2.2.2.2.2.2.2.1
    have h14 : vals 14 = .string (strB [hexd (b % 16)]) := hd.2.2.2.2.2.2.2.2.2.2.2.2.2.2.1
    have h15 : vals 15 = .string (strB [92, 120, hexd (b / 16), hexd (b % 16)]) := hd.2.2.2.2.2.2.2.2.2.2.2.2.2.2.2.1
    clear hd
    simp only [putS, List.foldl_nil, List.foldl_cons, Act.put, List.setIfInBounds_toArray, List.set_cons_zero, List.set_cons_succ, List.drop_succ_cons, List.drop_zero, h0, h1, h2, h3, h4, h5, h6, h7, h8, h9, h10, h11, h12, h13, h14, h15]
    clear h0 h1 h2 h3 h4 h5 h6 h7 h8 h9 h10 h11 h12 h13 h14 h15 hfresh
    go_wp2
    go_ret
    exact ⟨rfl, hg⟩

theorem rletter_hi (b : Nat) (hb : b < 256) (w : World) (c126 : 126 < b) :
    Calls Try.prog 32 #[.int .i64 b] w fun e w' => e = .returned (.string (strB [92, 120, hexd (b / 16), hexd (b % 16)])) ∧ Below w.heap.size w w' := by
  go_enter Try.func32, Try.ntmps32
  have e92 : ((b : Int) == 92) = false := by simp; omega
  have e93 : ((b : Int) == 93) = false := by simp; omega
  have e45 : ((b : Int) == 45) = false := by simp; omega
  have e94 : ((b : Int) == 94) = false := by simp; omega
  have e91 : ((b : Int) == 91) = false := by simp; omega
  go_wp2_with fail
  refine wp_region_grows 16 [IsV (.string { data := #[48, 49, 50, 51, 52, 53, 54, 55, 56, 57, 97, 98, 99, 100, 101, 102] }), IsV (.int .i64 b), IsV (.int .i64 (b / 16 : Nat)), IsV (.int .i64 b), IsV (.int .i64 (b / 16 : Nat)), IsV (.int .i64 (b / 16 + 1 : Nat)), IsV (.string (strB [hexd (b / 16)])), IsV (.string (strB [92, 120, hexd (b / 16)])), IsV (.string { data := #[48, 49, 50, 51, 52, 53, 54, 55, 56, 57, 97, 98, 99, 100, 101, 102] }), IsV (.int .i64 b), IsV (.int .i64 (b % 16 : Nat)), IsV (.int .i64 b), IsV (.int .i64 (b % 16 : Nat)), IsV (.int .i64 (b % 16 + 1 : Nat)), IsV (.string (strB [hexd (b % 16)])), IsV (.string (strB [92, 120, hexd (b / 16), hexd (b % 16)]))] []
    [[], [], [(1, 49)], [], [(3, 51)], [(4, 52)], [(0, 48), (2, 50), (5, 53)], [(6, 54)], [], [], [(9, 57)], [], [(11, 59)], [(12, 60)], [(8, 56), (10, 58), (13, 61)], [(7, 55), (14, 62)]] [(0, 48), (1, 49), (2, 50), (3, 51), (4, 52), (5, 53), (6, 54), (7, 55), (8, 56), (9, 57), (10, 58), (11, 59), (12, 60), (13, 61), (14, 62), (15, 63)] (by kernel_rfl) (by kernel_rfl) rfl ?stable ⟨?o0, ?o1, ?o2, ?o3, ?o4, ?o5, ?o6, ?o7, ?o8, ?o9, ?o10, ?o11, ?o12, ?o13, ?o14, ?o15, trivial⟩ ?fin
  case stable => exact ⟨IsV.stable _, IsV.stable _, IsV.stable _, IsV.stable _, IsV.stable _, IsV.stable _, IsV.stable _, IsV.stable _, IsV.stable _, IsV.stable _, IsV.stable _, IsV.stable _, IsV.stable _, IsV.stable _, IsV.stable _, IsV.stable _, trivial⟩
  case o0 =>
    intro vals w' hg hd
    clear hd
    simp only [putS, List.foldl_nil]
    go_simp
    try go_bits
    exact isV_mk _ _
  case o1 =>
    intro vals w' hg hd
    clear hd
    simp only [putS, List.foldl_nil]
    go_simp
    try go_bits
    exact isV_mk _ _
  case o2 =>
    intro vals w' hg hd
    have h1 : vals 1 = .int .i64 b := hd.1
    clear hd
    simp only [putS, List.foldl_nil, List.foldl_cons, Act.put, List.setIfInBounds_toArray, List.set_cons_zero, List.set_cons_succ, h1]
    go_simp
    try go_bits
    exact isV_mk _ _
  case o3 =>
    intro vals w' hg hd
    clear hd
    simp only [putS, List.foldl_nil]
    go_simp
    try go_bits
    exact isV_mk _ _
  case o4 =>
    intro vals w' hg hd
    have h3 : vals 3 = .int .i64 b := hd.1
    clear hd
    simp only [putS, List.foldl_nil, List.foldl_cons, Act.put, List.setIfInBounds_toArray, List.set_cons_zero, List.set_cons_succ, h3]
    go_simp
    try go_bits
    exact isV_mk _ _
  case o5 =>
    intro vals w' hg hd
    have h4 : vals 4 = .int .i64 (b / 16 : Nat) := hd.1
    clear hd
    simp only [putS, List.foldl_nil, List.foldl_cons, Act.put, List.setIfInBounds_toArray, List.set_cons_zero, List.set_cons_succ, h4]
    go_simp
    try go_bits
    exact isV_mk _ _
  case o6 =>
    intro vals w' hg hd
    have h0 : vals 0 = .string { data := #[48, 49, 50, 51, 52, 53, 54, 55, 56, 57, 97, 98, 99, 100, 101, 102] } := hd.1
    have h2 : vals 2 = .int .i64 (b / 16 : Nat) := hd.2.1
    have h5 : vals 5 = .int .i64 (b / 16 + 1 : Nat) := hd.2.2.1
    clear hd
    simp only [putS, List.foldl_nil, List.foldl_cons, Act.put, List.setIfInBounds_toArray, List.set_cons_zero, List.set_cons_succ, h0, h2, h5]
    clear hg
    go_simp
    rw [run_slice_string (P := Try.prog) _ 9 _ .i64 .i64 _ _ Try.underlying9 (by omega) (by omega) (by simp [ByteArray.size]; omega)]
    exact ⟨Below.refl _ _, hex_cut _ _ _ _ (by omega) (by omega) (by omega)⟩
  case o7 =>
    intro vals w' hg hd
    have h6 : vals 6 = .string (strB [hexd (b / 16)]) := hd.1
    clear hd
    simp only [putS, List.foldl_nil, List.foldl_cons, Act.put, List.setIfInBounds_toArray, List.set_cons_zero, List.set_cons_succ, h6]
    clear hg
    go_simp
    rw [if_neg (by simp only [strB_size, List.length_cons, List.length_nil]; omega)]
    exact ⟨Below.refl _ _, congrArg Value.string (cat_eq (by first | rfl | exact (strB_eq [92, 120] _ rfl).symm) rfl)⟩
  case o8 =>
    intro vals w' hg hd
    clear hd
    simp only [putS, List.foldl_nil]
    go_simp
    try go_bits
    exact isV_mk _ _
  case o9 =>
    intro vals w' hg hd
    clear hd
    simp only [putS, List.foldl_nil]
    go_simp
    try go_bits
    exact isV_mk _ _
  case o10 =>
    intro vals w' hg hd
    have h9 : vals 9 = .int .i64 b := hd.1
    clear hd
    simp only [putS, List.foldl_nil, List.foldl_cons, Act.put, List.setIfInBounds_toArray, List.set_cons_zero, List.set_cons_succ, h9]
    go_simp
    try go_bits
    exact isV_mk _ _
  case o11 =>
    intro vals w' hg hd
    clear hd
    simp only [putS, List.foldl_nil]
    go_simp
    try go_bits
    exact isV_mk _ _
  case o12 =>
    intro vals w' hg hd
    have h11 : vals 11 = .int .i64 b := hd.1
    clear hd
    simp only [putS, List.foldl_nil, List.foldl_cons, Act.put, List.setIfInBounds_toArray, List.set_cons_zero, List.set_cons_succ, h11]
    go_simp
    try go_bits
    exact isV_mk _ _
  case o13 =>
    intro vals w' hg hd
    have h12 : vals 12 = .int .i64 (b % 16 : Nat) := hd.1
    clear hd
    simp only [putS, List.foldl_nil, List.foldl_cons, Act.put, List.setIfInBounds_toArray, List.set_cons_zero, List.set_cons_succ, h12]
    go_simp
    try go_bits
    exact isV_mk _ _
  case o14 =>
    intro vals w' hg hd
    have h8 : vals 8 = .string { data := #[48, 49, 50, 51, 52, 53, 54, 55, 56, 57, 97, 98, 99, 100, 101, 102] } := hd.1
    have h10 : vals 10 = .int .i64 (b % 16 : Nat) := hd.2.1
    have h13 : vals 13 = .int .i64 (b % 16 + 1 : Nat) := hd.2.2.1
    clear hd
    simp only [putS, List.foldl_nil, List.foldl_cons, Act.put, List.setIfInBounds_toArray, List.set_cons_zero, List.set_cons_succ, h8, h10, h13]
    clear hg
    go_simp
    rw [run_slice_string (P := Try.prog) _ 9 _ .i64 .i64 _ _ Try.underlying9 (by omega) (by omega) (by simp [ByteArray.size]; omega)]
    exact ⟨Below.refl _ _, hex_cut _ _ _ _ (by omega) (by omega) (by omega)⟩
  case o15 =>
    intro vals w' hg hd
    have h7 : vals 7 = .string (strB [92, 120, hexd (b / 16)]) := hd.1
    have h14 : vals 14 = .string (strB [hexd (b % 16)]) := hd.2.1
    clear hd
    simp only [putS, List.foldl_nil, List.foldl_cons, Act.put, List.setIfInBounds_toArray, List.set_cons_zero, List.set_cons_succ, h7, h14]
    clear hg
    go_simp
    rw [if_neg (by simp only [strB_size, List.length_cons, List.length_nil]; omega)]
    exact ⟨Below.refl _ _, congrArg Value.string (cat_eq (by first | rfl | exact (strB_eq [92, 120] _ rfl).symm) rfl)⟩
  case fin =>
    intro vals w' hg hd hfresh
    have h0 : vals 0 = .string { data := #[48, 49, 50, 51, 52, 53, 54, 55, 56, 57, 97, 98, 99, 100, 101, 102] } := hd.1
    have h1 : vals 1 = .int .i64 b := hd.2.1
    have h2 : vals 2 = .int .i64 (b / 16 : Nat) := hd.2.2.1
    have h3 : vals 3 = .int .i64 b := hd.2.2.2.1
    have h4 : vals 4 = .int .i64 (b / 16 : Nat) := hd.2.2.2.2.1
    have h5 : vals 5 = .int .i64 (b / 16 + 1 : Nat) := hd.2.2.2.2.2.1
    have h6 : vals 6 = .string (strB [hexd (b / 16)]) := hd.2.2.2.2.2.2.1
    have h7 : vals 7 = .string (strB [92, 120, hexd (b / 16)]) := hd.2.2.2.2.2.2.2.1
    have h8 : vals 8 = .string { data := #[48, 49, 50, 51, 52, 53, 54, 55, 56, 57, 97, 98, 99, 100, 101, 102] } := hd.2.2.2.2.2.2.2.2.1
    have h9 : vals 9 = .int .i64 b := hd.2.2.2.2.2.2.2.2.2.1
    have h10 : vals 10 = .int .i64 (b % 16 : Nat) := hd.2.2.2.2.2.2.2.2.2.2.1
    have h11 : vals 11 = .int .i64 b := hd.2.2.2.2.2.2.2.2.2.2.2.1
    have h12 : vals 12 = .int .i64 (b % 16 : Nat) := hd.2.2.2.2.2.2.2.2.2.2.2.2.1
    have h13 : vals 13 = .int .i64 (b % 16 + 1 : Nat) := hd.2.2.2.2.2.2.2.2.2.2.2.2.2.1
    have h14 : vals 14 = .string (strB [hexd (b % 16)]) := hd.2.2.2.2.2.2.2.2.2.2.2.2.2.2.1
    have h15 : vals 15 = .string (strB [92, 120, hexd (b / 16), hexd (b % 16)]) := hd.2.2.2.2.2.2.2.2.2.2.2.2.2.2.2.1
    clear hd
    simp only [putS, List.foldl_nil, List.foldl_cons, Act.put, List.setIfInBounds_toArray, List.set_cons_zero, List.set_cons_succ, List.drop_succ_cons, List.drop_zero, h0, h1, h2, h3, h4, h5, h6, h7, h8, h9, h10, h11, h12, h13, h14, h15]
    clear h0 h1 h2 h3 h4 h5 h6 h7 h8 h9 h10 h11 h12 h13 h14 h15 hfresh
    go_wp2
    go_ret
    exact ⟨rfl, hg⟩

end Go.Proofs.Ytaagfmpolcpimaa
