/-
  The walk of letterset's letter: what it writes for one letter. Conditions: a letter below 256, few bytes so far.
-/
import Derived.Test.YtaagfmpolcpimaaWe
import Derived.Laws.AppendOwn
import Derived.OwnWalk
namespace Go.Proofs.Ytaagfmpolcpimaa
open Go.RowKit
set_option maxHeartbeats 400000
set_option maxRecDepth 100000
set_option linter.unusedSimpArgs false
set_option linter.unusedVariables false

theorem info5 : (Try.prog.info? 5).map (fun i => (i.zero, i.size, i.bytes)) = some (some (.int .u8 0), 1, 1) := by kernel_rfl
/-- a hexadecimal digit's letter -/
def hexd (k : Nat) : Nat := if k < 10 then 48 + k else 87 + k
/-- a letter's notation -/
def ltr (b : Nat) : List Nat :=
  if b = 10 then [92, 110] else if b = 9 then [92, 116] else if b = 13 then [92, 114] else if b < 32 ∨ 126 < b then [92, 120, hexd (b / 16), hexd (b % 16)]
  else if b = 92 ∨ b = 93 ∨ b = 45 ∨ b = 94 ∨ b = 91 then [92, b] else [b]
/-- bytes as values -/
def byV (l : List Nat) : List Value := l.map fun (n : Nat) => Value.int .u8 n
theorem byV_len (l : List Nat) : (byV l).length = l.length := by simp [byV]
theorem byV_one (l : List Nat) : ∀ u ∈ byV l, u.oneCell' = true := by
  intro u hu
  simp only [byV, List.mem_map] at hu
  obtain ⟨n, _, rfl⟩ := hu
  rfl
theorem byV_app (a b : List Nat) : byV a ++ byV b = byV (a ++ b) := by simp [byV]

/-- the row is the bytes l, among the blocks from B on -/
abbrev ownsB (w : World) (B : Nat) (v : Value) (l : List Nat) : Prop := w.ownsRow B 5 1 v l.length (byV l)
theorem own_grew {w w' : World} {B : Nat} {v : Value} {l : List Nat} (h : ownsB w B v l) (hg : Below w.heap.size w w') : ownsB w' B v l :=
  h.kept (row := none) ⟨hg.os, hg.tape, hg.output, hg.size, fun k hk _ => hg.block k hk⟩ (by cases v.ownBlock <;> simp)
theorem cells_row {w : World} {g : Nat} {xs : List Value} {t : TypeId} (h : w.heap[g]? = some (.cells xs.toArray t)) : ∀ j u, xs[j]? = some u → w.cell? ((⟨g, 0, none⟩ : Addr).add j) = some u := by
  intro j u hj
  have hadd : (⟨g, 0, none⟩ : Addr).add j = ⟨g, j, none⟩ := by unfold Addr.add; split <;> simp_all
  rw [hadd, cell_of_row w g j _ _ _ h]
  simpa using hj
theorem done_own (w : World) (v : Value) (l : List Nat) (B : Nat) (xs : List Nat) (hB : B ≤ w.heap.size) (hown : ownsB w B v l) {wm w1 : World} {v' : Value} (hg : Below w.heap.size w wm) (hg1 : wm.grownBy w1 v.ownBlock)
    (h1 : w1.ownsRow B 5 1 v' (l.length + xs.length) (byV l ++ byV xs)) : ownsB w1 B v' (l ++ xs) ∧ Below B w w1 := by
  refine ⟨?_, Below.grown (hg.mono hB) hg1 (by have := hg.size; omega) fun k hk => (hown.lt k hk).1⟩
  rw [byV_app, ← List.length_append] at h1
  exact h1

attribute [local go_sem] OneStep growAt growUpon

theorem hex_at : ∀ (k : Nat) (h : k < 16), (({ data := #[48, 49, 50, 51, 52, 53, 54, 55, 56, 57, 97, 98, 99, 100, 101, 102] } : ByteArray)[k]'h).toNat = hexd k := by decide

theorem hex_is (i : Int) (k : Nat) (h : i.toNat < 16) (w : World) (hk : i.toNat = k) :
    IsV (Value.int IntKind.u8 (hexd k : Nat)) (Value.int IntKind.u8 ((({ data := #[48, 49, 50, 51, 52, 53, 54, 55, 56, 57, 97, 98, 99, 100, 101, 102] } : ByteArray)[i.toNat]'h).toNat : Nat)) w := by
  subst hk; unfold IsV; rw [hex_at]

theorem letter_10 (B : Nat) (v : Value) (l : List Nat) (b : Nat) (hb : b < 256) (hl : l.length ≤ 100000) (w : World) (hB : B ≤ w.heap.size) (hown : ownsB w B v l) (c : b = 10) :
    Calls Try.prog 31 #[v, .int .u8 b] w fun e w' => ∃ v', e = .returned v' ∧ ownsB w' B v' (l ++ [92, 110]) ∧ Below B w w' := by
  obtain ⟨i0, hi, hz0, hz1, hz2⟩ := info_parts info5
  go_enter Try.func31, Try.ntmps31
  go_wp2_with (at_builtin; refine wpList_append_own _ rfl _ _ 38 rfl B 5 i0 (.int .u8 0) 1 1 Try.underlying38 hi hz0 hz1 hz2 rfl (by decide) _ _ _ rfl (hown.alloc _) ⟨w.heap.size, 0, none⟩ 2 2 (byV [92, 110]) rfl (by simp [byV]) (cells_row (heap_at _ _ _ rfl)) (byV_one _) (by unfold maxLen; omega) (by omega) (by simp; omega) ?_; intro v' w1 hown1 hg1 _)
  go_ret
  exact ⟨v', rfl, done_own w v l B [92, 110] hB hown (grew_alloc _ _) hg1 hown1⟩

theorem letter_9 (B : Nat) (v : Value) (l : List Nat) (b : Nat) (hb : b < 256) (hl : l.length ≤ 100000) (w : World) (hB : B ≤ w.heap.size) (hown : ownsB w B v l) (c : b = 9) :
    Calls Try.prog 31 #[v, .int .u8 b] w fun e w' => ∃ v', e = .returned v' ∧ ownsB w' B v' (l ++ [92, 116]) ∧ Below B w w' := by
  obtain ⟨i0, hi, hz0, hz1, hz2⟩ := info_parts info5
  go_enter Try.func31, Try.ntmps31
  go_wp2_with (at_builtin; refine wpList_append_own _ rfl _ _ 38 rfl B 5 i0 (.int .u8 0) 1 1 Try.underlying38 hi hz0 hz1 hz2 rfl (by decide) _ _ _ rfl (hown.alloc _) ⟨w.heap.size, 0, none⟩ 2 2 (byV [92, 116]) rfl (by simp [byV]) (cells_row (heap_at _ _ _ rfl)) (byV_one _) (by unfold maxLen; omega) (by omega) (by simp; omega) ?_; intro v' w1 hown1 hg1 _)
  go_ret
  exact ⟨v', rfl, done_own w v l B [92, 116] hB hown (grew_alloc _ _) hg1 hown1⟩

theorem letter_13 (B : Nat) (v : Value) (l : List Nat) (b : Nat) (hb : b < 256) (hl : l.length ≤ 100000) (w : World) (hB : B ≤ w.heap.size) (hown : ownsB w B v l) (c : b = 13) :
    Calls Try.prog 31 #[v, .int .u8 b] w fun e w' => ∃ v', e = .returned v' ∧ ownsB w' B v' (l ++ [92, 114]) ∧ Below B w w' := by
  obtain ⟨i0, hi, hz0, hz1, hz2⟩ := info_parts info5
  go_enter Try.func31, Try.ntmps31
  go_wp2_with (at_builtin; refine wpList_append_own _ rfl _ _ 38 rfl B 5 i0 (.int .u8 0) 1 1 Try.underlying38 hi hz0 hz1 hz2 rfl (by decide) _ _ _ rfl (hown.alloc _) ⟨w.heap.size, 0, none⟩ 2 2 (byV [92, 114]) rfl (by simp [byV]) (cells_row (heap_at _ _ _ rfl)) (byV_one _) (by unfold maxLen; omega) (by omega) (by simp; omega) ?_; intro v' w1 hown1 hg1 _)
  go_ret
  exact ⟨v', rfl, done_own w v l B [92, 114] hB hown (grew_alloc _ _) hg1 hown1⟩

theorem letter_lo (B : Nat) (v : Value) (l : List Nat) (b : Nat) (hb : b < 256) (hl : l.length ≤ 100000) (w : World) (hB : B ≤ w.heap.size) (hown : ownsB w B v l) (c10 : b ≠ 10) (c9 : b ≠ 9) (c13 : b ≠ 13) (c32 : b < 32) :
    Calls Try.prog 31 #[v, .int .u8 b] w fun e w' => ∃ v', e = .returned v' ∧ ownsB w' B v' (l ++ [92, 120, hexd (b / 16), hexd (b % 16)]) ∧ Below B w w' := by
  obtain ⟨i0, hi, hz0, hz1, hz2⟩ := info_parts info5
  go_enter Try.func31, Try.ntmps31
  go_wp2_with fail
  refine wp_region_grows 8 [IsV (v), IsV (.int .u8 b), IsV (.int .u8 (b / 16 : Nat)), IsV (.int .u8 (hexd (b / 16) : Nat)), IsV (.int .u8 b), IsV (.int .u8 (b % 16 : Nat)), IsV (.int .u8 (hexd (b % 16) : Nat)), IsRow (byV [92, 120, hexd (b / 16), hexd (b % 16)]).toArray 5 4] [7]
    [[], [], [(1, 31)], [(2, 32)], [], [(4, 34)], [(5, 35)], [(3, 33), (6, 36)]] [(0, 30), (1, 31), (2, 32), (3, 33), (4, 34), (5, 35), (6, 36), (7, 37)] (by kernel_rfl) (by kernel_rfl) rfl ?stable ⟨?o0, ?o1, ?o2, ?o3, ?o4, ?o5, ?o6, ?o7, trivial⟩ ?fin
  case stable => exact ⟨IsV.stable _, IsV.stable _, IsV.stable _, IsV.stable _, IsV.stable _, IsV.stable _, IsV.stable _, IsRow.stable _ _ _, trivial⟩
  case o0 =>
    intro vals w' hg hd
    clear hd
    simp only [putS, List.foldl_nil]
    go_simp
    try go_bits
    exact isV_mk _ _
  case o1 =>
    intro vals w' hg hd
    clear hd
    simp only [putS, List.foldl_nil]
    go_simp
    try go_bits
    exact isV_mk _ _
  case o2 =>
    intro vals w' hg hd
    have h1 : vals 1 = .int .u8 b := hd.1
    clear hd
    simp only [putS, List.foldl_nil, List.foldl_cons, Act.put, List.setIfInBounds_toArray, List.set_cons_zero, List.set_cons_succ, h1]
    go_simp
    try go_bits
    exact isV_mk _ _
  case o3 =>
    intro vals w' hg hd
    have h2 : vals 2 = .int .u8 (b / 16 : Nat) := hd.1
    clear hd
    simp only [putS, List.foldl_nil, List.foldl_cons, Act.put, List.setIfInBounds_toArray, List.set_cons_zero, List.set_cons_succ, h2]
    have hq : (0:Int) ≤ (b : Int) / 16 ∧ (b : Int) / 16 < 16 := by omega
    go_simp
    exact hex_is _ _ _ _ (by omega)
  case o4 =>
    intro vals w' hg hd
    clear hd
    simp only [putS, List.foldl_nil]
    go_simp
    try go_bits
    exact isV_mk _ _
  case o5 =>
    intro vals w' hg hd
    have h4 : vals 4 = .int .u8 b := hd.1
    clear hd
    simp only [putS, List.foldl_nil, List.foldl_cons, Act.put, List.setIfInBounds_toArray, List.set_cons_zero, List.set_cons_succ, h4]
    go_simp
    try go_bits
    exact isV_mk _ _
  case o6 =>
    intro vals w' hg hd
    have h5 : vals 5 = .int .u8 (b % 16 : Nat) := hd.1
    clear hd
    simp only [putS, List.foldl_nil, List.foldl_cons, Act.put, List.setIfInBounds_toArray, List.set_cons_zero, List.set_cons_succ, h5]
    have hq : (0:Int) ≤ (b : Int) % 16 ∧ (b : Int) % 16 < 16 := by omega
    go_simp
    exact hex_is _ _ _ _ (by omega)
  case o7 =>
    intro vals w' hg hd
    have h3 : vals 3 = .int .u8 (hexd (b / 16) : Nat) := hd.1
    have h6 : vals 6 = .int .u8 (hexd (b % 16) : Nat) := hd.2.1
    clear hd
    simp only [putS, List.foldl_nil, List.foldl_cons, Act.put, List.setIfInBounds_toArray, List.set_cons_zero, List.set_cons_succ, h3, h6]
    go_simp
    exact ⟨grew_alloc _ _, isRow_new _ _ _ _, ⟨_, rfl, Nat.le_refl _, by simp⟩⟩
  case fin =>
    intro vals w' hg hd hfresh
    have h0 : vals 0 = v := hd.1
    have h1 : vals 1 = .int .u8 b := hd.2.1
    have h2 : vals 2 = .int .u8 (b / 16 : Nat) := hd.2.2.1
    have h3 : vals 3 = .int .u8 (hexd (b / 16) : Nat) := hd.2.2.2.1
    have h4 : vals 4 = .int .u8 b := hd.2.2.2.2.1
    have h5 : vals 5 = .int .u8 (b % 16 : Nat) := hd.2.2.2.2.2.1
    have h6 : vals 6 = .int .u8 (hexd (b % 16) : Nat) := hd.2.2.2.2.2.2.1
    obtain ⟨q7, h7, hq7⟩ := hd.2.2.2.2.2.2.2.1
    clear hd
    simp only [putS, List.foldl_nil, List.foldl_cons, Act.put, List.setIfInBounds_toArray, List.set_cons_zero, List.set_cons_succ, List.drop_succ_cons, List.drop_zero, h0, h1, h2, h3, h4, h5, h6, h7]
    clear h0 h1 h2 h3 h4 h5 h6 h7 hfresh
    go_wp2_with (at_builtin; refine wpList_append_own _ rfl _ _ 38 rfl B 5 i0 (.int .u8 0) 1 1 Try.underlying38 hi hz0 hz1 hz2 rfl (by decide) _ _ _ rfl (own_grew hown hg) ⟨q7, 0, none⟩ 4 4 (byV [92, 120, hexd (b / 16), hexd (b % 16)]) rfl (by simp [byV]) (cells_row hq7) (byV_one _) (by unfold maxLen; omega) (by omega) (by have := hg.size; omega) ?_; intro v' w1 hown1 hg1 _)
    go_ret
    exact ⟨v', rfl, done_own w v l B [92, 120, hexd (b / 16), hexd (b % 16)] hB hown hg hg1 hown1⟩

theorem letter_hi (B : Nat) (v : Value) (l : List Nat) (b : Nat) (hb : b < 256) (hl : l.length ≤ 100000) (w : World) (hB : B ≤ w.heap.size) (hown : ownsB w B v l) (c126 : 126 < b) :
    Calls Try.prog 31 #[v, .int .u8 b] w fun e w' => ∃ v', e = .returned v' ∧ ownsB w' B v' (l ++ [92, 120, hexd (b / 16), hexd (b % 16)]) ∧ Below B w w' := by
  obtain ⟨i0, hi, hz0, hz1, hz2⟩ := info_parts info5
  go_enter Try.func31, Try.ntmps31
  go_wp2_with fail
  refine wp_region_grows 8 [IsV (v), IsV (.int .u8 b), IsV (.int .u8 (b / 16 : Nat)), IsV (.int .u8 (hexd (b / 16) : Nat)), IsV (.int .u8 b), IsV (.int .u8 (b % 16 : Nat)), IsV (.int .u8 (hexd (b % 16) : Nat)), IsRow (byV [92, 120, hexd (b / 16), hexd (b % 16)]).toArray 5 4] [7]
    [[], [], [(1, 31)], [(2, 32)], [], [(4, 34)], [(5, 35)], [(3, 33), (6, 36)]] [(0, 30), (1, 31), (2, 32), (3, 33), (4, 34), (5, 35), (6, 36), (7, 37)] (by kernel_rfl) (by kernel_rfl) rfl ?stable ⟨?o0, ?o1, ?o2, ?o3, ?o4, ?o5, ?o6, ?o7, trivial⟩ ?fin
  case stable => exact ⟨IsV.stable _, IsV.stable _, IsV.stable _, IsV.stable _, IsV.stable _, IsV.stable _, IsV.stable _, IsRow.stable _ _ _, trivial⟩
  case o0 =>
    intro vals w' hg hd
    clear hd
    simp only [putS, List.foldl_nil]
    go_simp
    try go_bits
    exact isV_mk _ _
  case o1 =>
    intro vals w' hg hd
    clear hd
    simp only [putS, List.foldl_nil]
    go_simp
    try go_bits
    exact isV_mk _ _
  case o2 =>
    intro vals w' hg hd
    have h1 : vals 1 = .int .u8 b := hd.1
    clear hd
    simp only [putS, List.foldl_nil, List.foldl_cons, Act.put, List.setIfInBounds_toArray, List.set_cons_zero, List.set_cons_succ, h1]
    go_simp
    try go_bits
    exact isV_mk _ _
  case o3 =>
    intro vals w' hg hd
    have h2 : vals 2 = .int .u8 (b / 16 : Nat) := hd.1
    clear hd
    simp only [putS, List.foldl_nil, List.foldl_cons, Act.put, List.setIfInBounds_toArray, List.set_cons_zero, List.set_cons_succ, h2]
    have hq : (0:Int) ≤ (b : Int) / 16 ∧ (b : Int) / 16 < 16 := by omega
    go_simp
    exact hex_is _ _ _ _ (by omega)
  case o4 =>
    intro vals w' hg hd
    clear hd
    simp only [putS, List.foldl_nil]
    go_simp
    try go_bits
    exact isV_mk _ _
  case o5 =>
    intro vals w' hg hd
    have h4 : vals 4 = .int .u8 b := hd.1
    clear hd
    simp only [putS, List.foldl_nil, List.foldl_cons, Act.put, List.setIfInBounds_toArray, List.set_cons_zero, List.set_cons_succ, h4]
    go_simp
    try go_bits
    exact isV_mk _ _
  case o6 =>
    intro vals w' hg hd
    have h5 : vals 5 = .int .u8 (b % 16 : Nat) := hd.1
    clear hd
    simp only [putS, List.foldl_nil, List.foldl_cons, Act.put, List.setIfInBounds_toArray, List.set_cons_zero, List.set_cons_succ, h5]
    have hq : (0:Int) ≤ (b : Int) % 16 ∧ (b : Int) % 16 < 16 := by omega
    go_simp
    exact hex_is _ _ _ _ (by omega)
  case o7 =>
    intro vals w' hg hd
    have h3 : vals 3 = .int .u8 (hexd (b / 16) : Nat) := hd.1
    have h6 : vals 6 = .int .u8 (hexd (b % 16) : Nat) := hd.2.1
    clear hd
    simp only [putS, List.foldl_nil, List.foldl_cons, Act.put, List.setIfInBounds_toArray, List.set_cons_zero, List.set_cons_succ, h3, h6]
    go_simp
    exact ⟨grew_alloc _ _, isRow_new _ _ _ _, ⟨_, rfl, Nat.le_refl _, by simp⟩⟩
  case fin =>
    intro vals w' hg hd hfresh
    have h0 : vals 0 = v := hd.1
    have h1 : vals 1 = .int .u8 b := hd.2.1
    have h2 : vals 2 = .int .u8 (b / 16 : Nat) := hd.2.2.1
    have h3 : vals 3 = .int .u8 (hexd (b / 16) : Nat) := hd.2.2.2.1
    have h4 : vals 4 = .int .u8 b := hd.2.2.2.2.1
    have h5 : vals 5 = .int .u8 (b % 16 : Nat) := hd.2.2.2.2.2.1
    have h6 : vals 6 = .int .u8 (hexd (b % 16) : Nat) := hd.2.2.2.2.2.2.1
    obtain ⟨q7, h7, hq7⟩ := hd.2.2.2.2.2.2.2.1
    clear hd
    simp only [putS, List.foldl_nil, List.foldl_cons, Act.put, List.setIfInBounds_toArray, List.set_cons_zero, List.set_cons_succ, List.drop_succ_cons, List.drop_zero, h0, h1, h2, h3, h4, h5, h6, h7]
    clear h0 h1 h2 h3 h4 h5 h6 h7 hfresh
    go_wp2_with (at_builtin; refine wpList_append_own _ rfl _ _ 38 rfl B 5 i0 (.int .u8 0) 1 1 Try.underlying38 hi hz0 hz1 hz2 rfl (by decide) _ _ _ rfl (own_grew hown hg) ⟨q7, 0, none⟩ 4 4 (byV [92, 120, hexd (b / 16), hexd (b % 16)]) rfl (by simp [byV]) (cells_row hq7) (byV_one _) (by unfold maxLen; omega) (by omega) (by have := hg.size; omega) ?_; intro v' w1 hown1 hg1 _)
    go_ret
    exact ⟨v', rfl, done_own w v l B [92, 120, hexd (b / 16), hexd (b % 16)] hB hown hg hg1 hown1⟩

theorem letter_92 (B : Nat) (v : Value) (l : List Nat) (b : Nat) (hb : b < 256) (hl : l.length ≤ 100000) (w : World) (hB : B ≤ w.heap.size) (hown : ownsB w B v l) (c : b = 92) :
    Calls Try.prog 31 #[v, .int .u8 b] w fun e w' => ∃ v', e = .returned v' ∧ ownsB w' B v' (l ++ [92, 92]) ∧ Below B w w' := by
  obtain ⟨i0, hi, hz0, hz1, hz2⟩ := info_parts info5
  go_enter Try.func31, Try.ntmps31
  go_wp2_with (at_builtin; refine wpList_append_own _ rfl _ _ 38 rfl B 5 i0 (.int .u8 0) 1 1 Try.underlying38 hi hz0 hz1 hz2 rfl (by decide) _ _ _ rfl (hown.alloc _) ⟨w.heap.size, 0, none⟩ 2 2 (byV [92, 92]) rfl (by simp [byV]) (cells_row (heap_at _ _ _ rfl)) (byV_one _) (by unfold maxLen; omega) (by omega) (by simp; omega) ?_; intro v' w1 hown1 hg1 _)
  go_ret
  exact ⟨v', rfl, done_own w v l B [92, 92] hB hown (grew_alloc _ _) hg1 hown1⟩

theorem letter_93 (B : Nat) (v : Value) (l : List Nat) (b : Nat) (hb : b < 256) (hl : l.length ≤ 100000) (w : World) (hB : B ≤ w.heap.size) (hown : ownsB w B v l) (c : b = 93) :
    Calls Try.prog 31 #[v, .int .u8 b] w fun e w' => ∃ v', e = .returned v' ∧ ownsB w' B v' (l ++ [92, 93]) ∧ Below B w w' := by
  obtain ⟨i0, hi, hz0, hz1, hz2⟩ := info_parts info5
  go_enter Try.func31, Try.ntmps31
  go_wp2_with (at_builtin; refine wpList_append_own _ rfl _ _ 38 rfl B 5 i0 (.int .u8 0) 1 1 Try.underlying38 hi hz0 hz1 hz2 rfl (by decide) _ _ _ rfl (hown.alloc _) ⟨w.heap.size, 0, none⟩ 2 2 (byV [92, 93]) rfl (by simp [byV]) (cells_row (heap_at _ _ _ rfl)) (byV_one _) (by unfold maxLen; omega) (by omega) (by simp; omega) ?_; intro v' w1 hown1 hg1 _)
  go_ret
  exact ⟨v', rfl, done_own w v l B [92, 93] hB hown (grew_alloc _ _) hg1 hown1⟩

theorem letter_45 (B : Nat) (v : Value) (l : List Nat) (b : Nat) (hb : b < 256) (hl : l.length ≤ 100000) (w : World) (hB : B ≤ w.heap.size) (hown : ownsB w B v l) (c : b = 45) :
    Calls Try.prog 31 #[v, .int .u8 b] w fun e w' => ∃ v', e = .returned v' ∧ ownsB w' B v' (l ++ [92, 45]) ∧ Below B w w' := by
  obtain ⟨i0, hi, hz0, hz1, hz2⟩ := info_parts info5
  go_enter Try.func31, Try.ntmps31
  go_wp2_with (at_builtin; refine wpList_append_own _ rfl _ _ 38 rfl B 5 i0 (.int .u8 0) 1 1 Try.underlying38 hi hz0 hz1 hz2 rfl (by decide) _ _ _ rfl (hown.alloc _) ⟨w.heap.size, 0, none⟩ 2 2 (byV [92, 45]) rfl (by simp [byV]) (cells_row (heap_at _ _ _ rfl)) (byV_one _) (by unfold maxLen; omega) (by omega) (by simp; omega) ?_; intro v' w1 hown1 hg1 _)
  go_ret
  exact ⟨v', rfl, done_own w v l B [92, 45] hB hown (grew_alloc _ _) hg1 hown1⟩

theorem letter_94 (B : Nat) (v : Value) (l : List Nat) (b : Nat) (hb : b < 256) (hl : l.length ≤ 100000) (w : World) (hB : B ≤ w.heap.size) (hown : ownsB w B v l) (c : b = 94) :
    Calls Try.prog 31 #[v, .int .u8 b] w fun e w' => ∃ v', e = .returned v' ∧ ownsB w' B v' (l ++ [92, 94]) ∧ Below B w w' := by
  obtain ⟨i0, hi, hz0, hz1, hz2⟩ := info_parts info5
  go_enter Try.func31, Try.ntmps31
  go_wp2_with (at_builtin; refine wpList_append_own _ rfl _ _ 38 rfl B 5 i0 (.int .u8 0) 1 1 Try.underlying38 hi hz0 hz1 hz2 rfl (by decide) _ _ _ rfl (hown.alloc _) ⟨w.heap.size, 0, none⟩ 2 2 (byV [92, 94]) rfl (by simp [byV]) (cells_row (heap_at _ _ _ rfl)) (byV_one _) (by unfold maxLen; omega) (by omega) (by simp; omega) ?_; intro v' w1 hown1 hg1 _)
  go_ret
  exact ⟨v', rfl, done_own w v l B [92, 94] hB hown (grew_alloc _ _) hg1 hown1⟩

theorem letter_91 (B : Nat) (v : Value) (l : List Nat) (b : Nat) (hb : b < 256) (hl : l.length ≤ 100000) (w : World) (hB : B ≤ w.heap.size) (hown : ownsB w B v l) (c : b = 91) :
    Calls Try.prog 31 #[v, .int .u8 b] w fun e w' => ∃ v', e = .returned v' ∧ ownsB w' B v' (l ++ [92, 91]) ∧ Below B w w' := by
  obtain ⟨i0, hi, hz0, hz1, hz2⟩ := info_parts info5
  go_enter Try.func31, Try.ntmps31
  go_wp2_with (at_builtin; refine wpList_append_own _ rfl _ _ 38 rfl B 5 i0 (.int .u8 0) 1 1 Try.underlying38 hi hz0 hz1 hz2 rfl (by decide) _ _ _ rfl (hown.alloc _) ⟨w.heap.size, 0, none⟩ 2 2 (byV [92, 91]) rfl (by simp [byV]) (cells_row (heap_at _ _ _ rfl)) (byV_one _) (by unfold maxLen; omega) (by omega) (by simp; omega) ?_; intro v' w1 hown1 hg1 _)
  go_ret
  exact ⟨v', rfl, done_own w v l B [92, 91] hB hown (grew_alloc _ _) hg1 hown1⟩

theorem letter_one (B : Nat) (v : Value) (l : List Nat) (b : Nat) (hb : b < 256) (hl : l.length ≤ 100000) (w : World) (hB : B ≤ w.heap.size) (hown : ownsB w B v l) (c32 : 32 ≤ b) (c126 : b ≤ 126) (c92 : b ≠ 92) (c93 : b ≠ 93) (c45 : b ≠ 45) (c94 : b ≠ 94) (c91 : b ≠ 91) :
    Calls Try.prog 31 #[v, .int .u8 b] w fun e w' => ∃ v', e = .returned v' ∧ ownsB w' B v' (l ++ [b]) ∧ Below B w w' := by
  obtain ⟨i0, hi, hz0, hz1, hz2⟩ := info_parts info5
  go_enter Try.func31, Try.ntmps31
  have e92 : ((b : Int) == 92) = false := by simp; omega
  have e93 : ((b : Int) == 93) = false := by simp; omega
  have e45 : ((b : Int) == 45) = false := by simp; omega
  have e94 : ((b : Int) == 94) = false := by simp; omega
  have e91 : ((b : Int) == 91) = false := by simp; omega
  go_wp2_with (at_builtin; refine wpList_append_own _ rfl _ _ 38 rfl B 5 i0 (.int .u8 0) 1 1 Try.underlying38 hi hz0 hz1 hz2 rfl (by decide) _ _ _ rfl (hown.alloc _) ⟨w.heap.size, 0, none⟩ 1 1 (byV [b]) rfl (by simp [byV]) (cells_row (heap_at _ _ _ rfl)) (byV_one _) (by unfold maxLen; omega) (by omega) (by simp; omega) ?_; intro v' w1 hown1 hg1 _)
  go_ret
  exact ⟨v', rfl, done_own w v l B [b] hB hown (grew_alloc _ _) hg1 hown1⟩

theorem letter_c (B : Nat) (v : Value) (l : List Nat) (b : Nat) (hb : b < 256) (hl : l.length ≤ 100000) (w : World) (hB : B ≤ w.heap.size) (hown : ownsB w B v l) :
    Calls Try.prog 31 #[v, .int .u8 b] w fun e w' => ∃ v', e = .returned v' ∧ ownsB w' B v' (l ++ ltr b) ∧ Below B w w' := by
  by_cases c10 : b = 10
  · rw [show ltr b = [92, 110] by subst c10; rfl]; exact letter_10 B v l b hb hl w hB hown c10
  by_cases c9 : b = 9
  · rw [show ltr b = [92, 116] by subst c9; rfl]; exact letter_9 B v l b hb hl w hB hown c9
  by_cases c13 : b = 13
  · rw [show ltr b = [92, 114] by subst c13; rfl]; exact letter_13 B v l b hb hl w hB hown c13
  by_cases c32 : b < 32
  · rw [show ltr b = [92, 120, hexd (b / 16), hexd (b % 16)] by simp [ltr, c10, c9, c13, c32]]; exact letter_lo B v l b hb hl w hB hown c10 c9 c13 c32
  by_cases c126 : 126 < b
  · rw [show ltr b = [92, 120, hexd (b / 16), hexd (b % 16)] by simp [ltr, c10, c9, c13, c126]]; exact letter_hi B v l b hb hl w hB hown c126
  by_cases c92 : b = 92
  · rw [show ltr b = [92, 92] by subst c92; rfl]; exact letter_92 B v l b hb hl w hB hown c92
  by_cases c93 : b = 93
  · rw [show ltr b = [92, 93] by subst c93; rfl]; exact letter_93 B v l b hb hl w hB hown c93
  by_cases c45 : b = 45
  · rw [show ltr b = [92, 45] by subst c45; rfl]; exact letter_45 B v l b hb hl w hB hown c45
  by_cases c94 : b = 94
  · rw [show ltr b = [92, 94] by subst c94; rfl]; exact letter_94 B v l b hb hl w hB hown c94
  by_cases c91 : b = 91
  · rw [show ltr b = [92, 91] by subst c91; rfl]; exact letter_91 B v l b hb hl w hB hown c91
  rw [show ltr b = [b] by simp [ltr, c10, c9, c13, c32, c126, c92, c93, c45, c94, c91]]
  exact letter_one B v l b hb hl w hB hown (by omega) (by omega) c92 c93 c45 c94 c91

end Go.Proofs.Ytaagfmpolcpimaa
