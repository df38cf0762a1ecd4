/-
  LettersetParses: the law's walk: it returns true and writes nothing that was there. Conditions: bytes below 256, a text that fits memory.
-/
import Derived.Test.YtaagfmpolcpimaaWn
import Derived.Test.YtaagfmpolcpimaaWe
import Derived.Test.YtaagfmpolcpimaaEq
namespace Go.Proofs.Ytaagfmpolcpimaa
open Go.RowKit
attribute [local go_sem] OneStep growAt growUpon
set_option maxHeartbeats 4000000
set_option maxRecDepth 100000
set_option linter.unusedSimpArgs false
set_option linter.unusedVariables false

theorem num_nil (w : World) : Calls Try.prog 29 #[.nilIface] w fun e w' => e = .returned (.int .i64 0) ∧ Below w.heap.size w w' := by
  go_enter Try.func29, Try.ntmps29
  go_wp2
  go_ret
  exact ⟨rfl, Below.refl _ _⟩
theorem num_4 (w : World) : Calls Try.prog 29 #[.iface 63 (.int .i64 4)] w fun e w' => e = .returned (.int .i64 4) ∧ Below w.heap.size w w' := by
  have ha : ∀ w, (Instr.typeAssert (.iface 63 (.int .i64 4)) 49 63 true).run Try.prog w = .ok (.tuple #[.int .i64 4, .bool true]) w := fun _ => by kernel_rfl
  go_enter Try.func29, Try.ntmps29
  go_wp2
  go_ret
  exact ⟨rfl, Below.refl _ _⟩
/-- the error, its number, the set of a reading -/
def eV : Option (Nat → Nat) → Value
  | none => .iface 63 (.int .i64 4)
  | some _ => .nilIface
def nV : Option (Nat → Nat) → Int
  | none => 4
  | some _ => 0
def sW : Option (Nat → Nat) → Nat → Nat
  | none => fun _ => 0
  | some s => s
theorem prsV_eq (E : Option (Nat → Nat)) : prsV E = .tuple #[.agg (AV (sW E)), eV E] := by cases E <;> rfl
theorem prsRV_eq (E : Option (Nat → Nat)) : prsRV E = .tuple #[.agg (BV (bit (sW E))), .int .i64 (nV E)] := by
  cases E
  · unfold prsRV nV sW; rw [BV_congr (m := fun _ => false) fun j _ => (bit_zero j).symm]
  · rfl
theorem num_c (E : Option (Nat → Nat)) (w : World) : Calls Try.prog 29 #[eV E] w fun e w' => e = .returned (.int .i64 (nV E)) ∧ Below w.heap.size w w' := by
  cases E
  · exact num_4 w
  · exact num_nil w
attribute [irreducible] eV nV sW
theorem prs_W64 : ∀ (n : Nat) (l : List Nat) (s : Nat → Nat), l.length ≤ n → W64 s → ∀ t, prs l s = some t → W64 t
  | n, l, s, hn, hs, t, h => by
    by_cases he : l = []
    · subst he; rw [prs_nil] at h; cases h; exact hs
    · cases hr : rng l with
      | none => rw [prs_none he hr] at h; cases h
      | some p =>
        obtain ⟨a, b, m⟩ := p
        rw [prs_some he hr] at h
        have h1 := rng_pos hr
        have h2 := List.length_pos_iff.2 he
        cases n with
        | zero => omega
        | succ n => exact prs_W64 n (l.drop m) _ (by simp; omega) (orW_W64 hs (btw_W64 _ _)) t h
theorem sW_W64 (L : List Nat) : W64 (sW (prs L fun _ => 0)) := by
  unfold sW
  cases h : prs L fun _ => 0 with
  | none => exact W64_zero
  | some t => exact prs_W64 L.length L _ (Nat.le_refl _) W64_zero t h
theorem prs_lit : prs [97, 45, 99] (fun _ => 0) = some (orW (fun _ => 0) (btw 97 3)) := by
  rw [prs_some (by simp) (show rng [97, 45, 99] = some (97, 99, 3) by decide)]
  exact prs_nil _
theorem btw_lit : eqS (orW (fun _ => 0) (btw 97 3)) (btw 97 3) = true := (eqS_iff (orW_W64 W64_zero (btw_W64 _ _)) (btw_W64 _ _)).2 fun b _ => by rw [bit_orW, bit_zero, Bool.false_or]
theorem btw_lit2 : eqS (orW (fun _ => 0) (btw 97 3)) (fun _ => 0) = false := by
  rw [Bool.eq_false_iff]
  intro h
  have := (eqS_iff (orW_W64 W64_zero (btw_W64 _ _)) W64_zero).1 h 97 (by omega)
  rw [bit_orW, bit_zero, bit_btw] at this
  simp at this
theorem eq_AV_false {s t : Nat → Nat} (h : eqS s t = false) (w : World) : (Op.equalIn 10000 24 (.agg (AV s)) (.agg (AV t))).run Try.prog w = .ok false w := by rw [eq_AV, h]
theorem lit_strB : ({ data := #[97, 45, 99] } : ByteArray) = strB [97, 45, 99] := by unfold strB; rfl

theorem parses_walk (L : List Nat) (hl : ∀ x ∈ L, x < 256) (hL : L.length ≤ 1000000000000000) (w : World) : Calls Try.prog 9 #[.string (strB L)] w fun e w' => e = .returned (.bool true) ∧ Below w.heap.size w w' := by
  obtain ⟨E, hE⟩ : ∃ E, E = prs L fun _ => 0 := ⟨_, rfl⟩
  have HW : Hid (W64 (sW E)) := Lib.hid (by rw [hE]; exact sW_W64 L)
  have HEE := Lib.hid hE
  have HE1 : Hid (eqS (orW (fun _ => 0) (btw 97 3)) (btw 97 3) = true) := Lib.hid btw_lit
  have HE2 : Hid (eqS (orW (fun _ => 0) (btw 97 3)) (fun _ => 0) = false) := Lib.hid btw_lit2
  have HL := Lib.hid hl
  clear hE hl
  go_enter Try.func9, Try.ntmps9
  go_wp2_with fail
  refine (parse_c L HL.out hL _).mono ?_
  rw [← HEE.out, prsV_eq]
  rintro e w1 ⟨rfl, hb1⟩
  have HE : Hid (Grew w w1) := Lib.hid hb1
  clear hb1
  go_wp2_with (first | (refine wpList_alloc_row rfl 24 rfl _ z24 ?_; simp only [Act.put, List.setIfInBounds_toArray, List.set_cons_zero, List.set_cons_succ]) | (refine wpList_store_row rfl 24 _ _ rfl _ rfl _ rfl _ _ (heap_at _ _ _ rfl) (i24 _) (by simp only [AV_size]) (AV_one _) ?_; rw [setRow_alloc _ _ _ _ _ rfl]; simp only [Act.put, List.setIfInBounds_toArray, List.set_cons_zero, List.set_cons_succ]) | fail)
  obtain ⟨B0, hB0⟩ : ∃ B0, B0 = w1.heap.size := ⟨_, rfl⟩
  have H0 := Lib.hid (heap_at w1 (.cells (AV (sW E)) 24) B0 hB0)
  have HE := Lib.hid (HE.out.trans (grew_alloc w1 (.cells (AV (sW E)) 24)))
  rw [← hB0]
  generalize w1.alloc (.cells (AV (sW E)) 24) = w2 at H0 HE ⊢
  clear hB0
  refine (refParse_c L HL.out hL _).mono ?_
  rw [← HEE.out, prsRV_eq]
  rintro e w3 ⟨rfl, hb3⟩
  have H0 := Lib.hid (block_below' hb3 H0.out)
  have HE := Lib.hid (HE.out.trans hb3)
  clear hb3
  go_wp2_with (first | (refine wpList_alloc_row rfl 29 rfl _ z29 ?_; simp only [Act.put, List.setIfInBounds_toArray, List.set_cons_zero, List.set_cons_succ]) | (refine wpList_store_row rfl 29 _ _ rfl _ rfl _ rfl _ _ (heap_at _ _ _ rfl) (i29 _) (by simp only [BV_size]) (BV_one _) ?_; rw [setRow_alloc _ _ _ _ _ rfl]; simp only [Act.put, List.setIfInBounds_toArray, List.set_cons_zero, List.set_cons_succ]) | fail)
  obtain ⟨B1, hB1⟩ : ∃ B1, B1 = w3.heap.size := ⟨_, rfl⟩
  have H1 := Lib.hid (heap_at w3 (.cells (BV (bit (sW E))) 29) B1 hB1)
  have H0 := Lib.hid (block_below' (grew_alloc w3 (.cells (BV (bit (sW E))) 29)) H0.out)
  have HE := Lib.hid (HE.out.trans (grew_alloc w3 (.cells (BV (bit (sW E))) 29)))
  rw [← hB1]
  generalize w3.alloc (.cells (BV (bit (sW E))) 29) = w4 at H0 H1 HE ⊢
  clear hB1
  rw [lit_strB]
  refine (parse_c [97, 45, 99] (by simp) (by simp) _).mono ?_
  rw [prs_lit]
  rintro e w5 ⟨rfl, hb5⟩
  have H0 := Lib.hid (block_below' hb5 H0.out)
  have H1 := Lib.hid (block_below' hb5 H1.out)
  have HE := Lib.hid (HE.out.trans hb5)
  clear hb5
  simp only [prsV]
  go_wp2_with (first | (refine wpList_alloc_row rfl 24 rfl _ z24 ?_; simp only [Act.put, List.setIfInBounds_toArray, List.set_cons_zero, List.set_cons_succ]) | (refine wpList_store_row rfl 24 _ _ rfl _ rfl _ rfl _ _ (heap_at _ _ _ rfl) (i24 _) (by simp only [AV_size]) (AV_one _) ?_; rw [setRow_alloc _ _ _ _ _ rfl]; simp only [Act.put, List.setIfInBounds_toArray, List.set_cons_zero, List.set_cons_succ]) | fail)
  obtain ⟨B2, hB2⟩ : ∃ B2, B2 = w5.heap.size := ⟨_, rfl⟩
  have H2 := Lib.hid (heap_at w5 (.cells (AV (orW (fun _ => 0) (btw 97 3))) 24) B2 hB2)
  have H0 := Lib.hid (block_below' (grew_alloc w5 (.cells (AV (orW (fun _ => 0) (btw 97 3))) 24)) H0.out)
  have H1 := Lib.hid (block_below' (grew_alloc w5 (.cells (AV (orW (fun _ => 0) (btw 97 3))) 24)) H1.out)
  have HE := Lib.hid (HE.out.trans (grew_alloc w5 (.cells (AV (orW (fun _ => 0) (btw 97 3))) 24)))
  rw [← hB2]
  generalize w5.alloc (.cells (AV (orW (fun _ => 0) (btw 97 3))) 24) = w6 at H0 H1 H2 HE ⊢
  clear hB2
  refine wp_region_grows 25 [IsV (.nilIface), IsV (.bool true), IsV (.bool true), IsV (.agg (AV (orW (fun _ => 0) (btw 97 3)))), IsV (.agg (AV (btw 97 3))), IsV (.bool true), IsV (.bool true), IsV (.bool true), IsV (.agg (AV (orW (fun _ => 0) (btw 97 3)))), IsV (.agg (AV fun _ => 0)), IsV (.bool true), IsV (.bool true), IsV (.bool true), IsV ((eV E)), IsV (.int .i64 (nV E)), IsV (.int .i64 (nV E)), IsV (.bool true), IsV (.bool true), IsV (.bool true), IsV (.agg (AV (sW E))), IsV (.agg (BV (bit (sW E)))), IsV (.agg (BV (bit (sW E)))), IsV (.bool true), IsV (.bool true), IsV (.bool true)] []
    [[], [(0, 23)], [(1, 24)], [(2, 25)], [(2, 25)], [(2, 25), (3, 26), (4, 27)], [(2, 25), (5, 28)], [(6, 29)], [(7, 30)], [(7, 30)], [(7, 30), (8, 31), (9, 32)], [(7, 30), (10, 33)], [(11, 34)], [(12, 35)], [(12, 35), (13, 36)], [(12, 35)], [(12, 35), (14, 37), (15, 38)], [(12, 35), (16, 39)], [(17, 40)], [(18, 41)], [(18, 41), (19, 42)], [(18, 41)], [(18, 41), (20, 43), (21, 44)], [(18, 41), (22, 45)], [(23, 46)]] [(0, 23), (1, 24), (2, 25), (3, 26), (4, 27), (5, 28), (6, 29), (7, 30), (8, 31), (9, 32), (10, 33), (11, 34), (12, 35), (13, 36), (14, 37), (15, 38), (16, 39), (17, 40), (18, 41), (19, 42), (20, 43), (21, 44), (22, 45), (23, 46), (24, 2)] (by kernel_rfl) (by kernel_rfl) rfl ?stable ⟨?o0, ?o1, ?o2, ?o3, ?o4, ?o5, ?o6, ?o7, ?o8, ?o9, ?o10, ?o11, ?o12, ?o13, ?o14, ?o15, ?o16, ?o17, ?o18, ?o19, ?o20, ?o21, ?o22, ?o23, ?o24, trivial⟩ ?fin
  case stable => exact ⟨IsV.stable _, IsV.stable _, IsV.stable _, IsV.stable _, IsV.stable _, IsV.stable _, IsV.stable _, IsV.stable _, IsV.stable _, IsV.stable _, IsV.stable _, IsV.stable _, IsV.stable _, IsV.stable _, IsV.stable _, IsV.stable _, IsV.stable _, IsV.stable _, IsV.stable _, IsV.stable _, IsV.stable _, IsV.stable _, IsV.stable _, IsV.stable _, IsV.stable _, trivial⟩
  case o0 =>
    intro vals w' hg hd
    clear hd
    simp only [putS, List.foldl_nil]
    clear hg
    go_simp
    try go_bits
    exact isV_mk _ _
  case o1 =>
    intro vals w' hg hd
    have h0 : vals 0 = .nilIface := hd.1
    clear hd
    simp only [putS, List.foldl_nil, List.foldl_cons, Act.put, List.setIfInBounds_toArray, List.set_cons_zero, List.set_cons_succ, h0]
    clear hg h0
    go_simp
    try go_bits
    exact isV_mk _ _
  case o2 =>
    intro vals w' hg hd
    have h1 : vals 1 = .bool true := hd.1
    clear hd
    simp only [putS, List.foldl_nil, List.foldl_cons, Act.put, List.setIfInBounds_toArray, List.set_cons_zero, List.set_cons_succ, h1]
    clear hg h1
    go_simp
    try go_bits
    exact isV_mk _ _
  case o3 =>
    intro vals w' hg hd
    have h2 : vals 2 = .bool true := hd.1
    clear hd
    simp only [putS, List.foldl_nil, List.foldl_cons, Act.put, List.setIfInBounds_toArray, List.set_cons_zero, List.set_cons_succ, h2]
    exact one_load_row (by rfl) _ _ rfl _ rfl _ _ _ _ (block_below' hg H2.out) Try.underlying24 rfl (i24 _) (isV_mk _ _)
  case o4 =>
    intro vals w' hg hd
    have h2 : vals 2 = .bool true := hd.1
    clear hd
    simp only [putS, List.foldl_nil, List.foldl_cons, Act.put, List.setIfInBounds_toArray, List.set_cons_zero, List.set_cons_succ, h2]
    clear hg h2
    go_simp
    exact (between_c 97 99 (by omega) (by omega) w').mono fun e w2 ⟨he, hb⟩ => ⟨_, he, hb, isV_mk _ _⟩
  case o5 =>
    intro vals w' hg hd
    have h2 : vals 2 = .bool true := hd.1
    have h3 : vals 3 = .agg (AV (orW (fun _ => 0) (btw 97 3))) := hd.2.1
    have h4 : vals 4 = .agg (AV (btw 97 3)) := hd.2.2.1
    clear hd
    simp only [putS, List.foldl_nil, List.foldl_cons, Act.put, List.setIfInBounds_toArray, List.set_cons_zero, List.set_cons_succ, h2, h3, h4]
    have heq0 := fun w => eq_AV_true HE1.out w
    clear hg h2 h3 h4
    go_simp
    exact isV_mk _ _
  case o6 =>
    intro vals w' hg hd
    have h2 : vals 2 = .bool true := hd.1
    have h5 : vals 5 = .bool true := hd.2.1
    clear hd
    simp only [putS, List.foldl_nil, List.foldl_cons, Act.put, List.setIfInBounds_toArray, List.set_cons_zero, List.set_cons_succ, h2, h5]
    clear hg h2 h5
    go_simp
    try go_bits
    exact isV_mk _ _
  case o7 =>
    intro vals w' hg hd
    have h6 : vals 6 = .bool true := hd.1
    clear hd
    simp only [putS, List.foldl_nil, List.foldl_cons, Act.put, List.setIfInBounds_toArray, List.set_cons_zero, List.set_cons_succ, h6]
    clear hg h6
    go_simp
    try go_bits
    exact isV_mk _ _
  case o8 =>
    intro vals w' hg hd
    have h7 : vals 7 = .bool true := hd.1
    clear hd
    simp only [putS, List.foldl_nil, List.foldl_cons, Act.put, List.setIfInBounds_toArray, List.set_cons_zero, List.set_cons_succ, h7]
    exact one_load_row (by rfl) _ _ rfl _ rfl _ _ _ _ (block_below' hg H2.out) Try.underlying24 rfl (i24 _) (isV_mk _ _)
  case o9 =>
    intro vals w' hg hd
    have h7 : vals 7 = .bool true := hd.1
    clear hd
    simp only [putS, List.foldl_nil, List.foldl_cons, Act.put, List.setIfInBounds_toArray, List.set_cons_zero, List.set_cons_succ, h7]
    clear hg h7
    go_simp
    exact congrArg Value.agg (AV_eq fun _ => 0).symm
  case o10 =>
    intro vals w' hg hd
    have h7 : vals 7 = .bool true := hd.1
    have h8 : vals 8 = .agg (AV (orW (fun _ => 0) (btw 97 3))) := hd.2.1
    have h9 : vals 9 = .agg (AV fun _ => 0) := hd.2.2.1
    clear hd
    simp only [putS, List.foldl_nil, List.foldl_cons, Act.put, List.setIfInBounds_toArray, List.set_cons_zero, List.set_cons_succ, h7, h8, h9]
    have heq0 := fun w => eq_AV_false HE2.out w
    clear hg h7 h8 h9
    go_simp
    exact isV_mk _ _
  case o11 =>
    intro vals w' hg hd
    have h7 : vals 7 = .bool true := hd.1
    have h10 : vals 10 = .bool true := hd.2.1
    clear hd
    simp only [putS, List.foldl_nil, List.foldl_cons, Act.put, List.setIfInBounds_toArray, List.set_cons_zero, List.set_cons_succ, h7, h10]
    clear hg h7 h10
    go_simp
    try go_bits
    exact isV_mk _ _
  case o12 =>
    intro vals w' hg hd
    have h11 : vals 11 = .bool true := hd.1
    clear hd
    simp only [putS, List.foldl_nil, List.foldl_cons, Act.put, List.setIfInBounds_toArray, List.set_cons_zero, List.set_cons_succ, h11]
    clear hg h11
    go_simp
    try go_bits
    exact isV_mk _ _
  case o13 =>
    intro vals w' hg hd
    have h12 : vals 12 = .bool true := hd.1
    clear hd
    simp only [putS, List.foldl_nil, List.foldl_cons, Act.put, List.setIfInBounds_toArray, List.set_cons_zero, List.set_cons_succ, h12]
    clear hg h12
    go_simp
    try go_bits
    exact isV_mk _ _
  case o14 =>
    intro vals w' hg hd
    have h12 : vals 12 = .bool true := hd.1
    have h13 : vals 13 = (eV E) := hd.2.1
    clear hd
    simp only [putS, List.foldl_nil, List.foldl_cons, Act.put, List.setIfInBounds_toArray, List.set_cons_zero, List.set_cons_succ, h12, h13]
    clear hg h12 h13
    go_simp
    exact (num_c E w').mono fun e w2 ⟨he, hb⟩ => ⟨_, he, hb, isV_mk _ _⟩
  case o15 =>
    intro vals w' hg hd
    have h12 : vals 12 = .bool true := hd.1
    clear hd
    simp only [putS, List.foldl_nil, List.foldl_cons, Act.put, List.setIfInBounds_toArray, List.set_cons_zero, List.set_cons_succ, h12]
    clear hg h12
    go_simp
    try go_bits
    exact isV_mk _ _
  case o16 =>
    intro vals w' hg hd
    have h12 : vals 12 = .bool true := hd.1
    have h14 : vals 14 = .int .i64 (nV E) := hd.2.1
    have h15 : vals 15 = .int .i64 (nV E) := hd.2.2.1
    clear hd
    simp only [putS, List.foldl_nil, List.foldl_cons, Act.put, List.setIfInBounds_toArray, List.set_cons_zero, List.set_cons_succ, h12, h14, h15]
    clear hg h12 h14 h15
    go_simp
    try go_bits
    exact isV_mk _ _
  case o17 =>
    intro vals w' hg hd
    have h12 : vals 12 = .bool true := hd.1
    have h16 : vals 16 = .bool true := hd.2.1
    clear hd
    simp only [putS, List.foldl_nil, List.foldl_cons, Act.put, List.setIfInBounds_toArray, List.set_cons_zero, List.set_cons_succ, h12, h16]
    clear hg h12 h16
    go_simp
    try go_bits
    exact isV_mk _ _
  case o18 =>
    intro vals w' hg hd
    have h17 : vals 17 = .bool true := hd.1
    clear hd
    simp only [putS, List.foldl_nil, List.foldl_cons, Act.put, List.setIfInBounds_toArray, List.set_cons_zero, List.set_cons_succ, h17]
    clear hg h17
    go_simp
    try go_bits
    exact isV_mk _ _
  case o19 =>
    intro vals w' hg hd
    have h18 : vals 18 = .bool true := hd.1
    clear hd
    simp only [putS, List.foldl_nil, List.foldl_cons, Act.put, List.setIfInBounds_toArray, List.set_cons_zero, List.set_cons_succ, h18]
    exact one_load_row (by rfl) _ _ rfl _ rfl _ _ _ _ (block_below' hg H0.out) Try.underlying24 rfl (i24 _) (isV_mk _ _)
  case o20 =>
    intro vals w' hg hd
    have h18 : vals 18 = .bool true := hd.1
    have h19 : vals 19 = .agg (AV (sW E)) := hd.2.1
    clear hd
    simp only [putS, List.foldl_nil, List.foldl_cons, Act.put, List.setIfInBounds_toArray, List.set_cons_zero, List.set_cons_succ, h18, h19]
    clear hg h18 h19
    go_simp
    exact (refOf_c _ HW.out w').mono fun e w2 ⟨he, hb⟩ => ⟨_, he, hb, isV_mk _ _⟩
  case o21 =>
    intro vals w' hg hd
    have h18 : vals 18 = .bool true := hd.1
    clear hd
    simp only [putS, List.foldl_nil, List.foldl_cons, Act.put, List.setIfInBounds_toArray, List.set_cons_zero, List.set_cons_succ, h18]
    exact one_load_row (by rfl) _ _ rfl _ rfl _ _ _ _ (block_below' hg H1.out) Try.underlying29 rfl (i29 _) (isV_mk _ _)
  case o22 =>
    intro vals w' hg hd
    have h18 : vals 18 = .bool true := hd.1
    have h20 : vals 20 = .agg (BV (bit (sW E))) := hd.2.1
    have h21 : vals 21 = .agg (BV (bit (sW E))) := hd.2.2.1
    clear hd
    simp only [putS, List.foldl_nil, List.foldl_cons, Act.put, List.setIfInBounds_toArray, List.set_cons_zero, List.set_cons_succ, h18, h20, h21]
    have heq0 := fun w => eq_BV_true (m := bit (sW E)) (n := bit (sW E)) (fun i _ => rfl) w
    clear hg h18 h20 h21
    go_simp
    exact isV_mk _ _
  case o23 =>
    intro vals w' hg hd
    have h18 : vals 18 = .bool true := hd.1
    have h22 : vals 22 = .bool true := hd.2.1
    clear hd
    simp only [putS, List.foldl_nil, List.foldl_cons, Act.put, List.setIfInBounds_toArray, List.set_cons_zero, List.set_cons_succ, h18, h22]
    clear hg h18 h22
    go_simp
    try go_bits
    exact isV_mk _ _
  case o24 =>
    intro vals w' hg hd
    have h23 : vals 23 = .bool true := hd.1
    clear hd
    simp only [putS, List.foldl_nil, List.foldl_cons, Act.put, List.setIfInBounds_toArray, List.set_cons_zero, List.set_cons_succ, h23]
    clear hg h23
    go_simp
    try go_bits
    exact isV_mk _ _
  case fin =>
    intro vals w' hg hd hfresh
    have h0 : vals 0 = .nilIface := hd.1
    have h1 : vals 1 = .bool true := hd.2.1
    have h2 : vals 2 = .bool true := hd.2.2.1
    have h3 : vals 3 = .agg (AV (orW (fun _ => 0) (btw 97 3))) := hd.2.2.2.1
    have h4 : vals 4 = .agg (AV (btw 97 3)) := hd.2.2.2.2.1
    have h5 : vals 5 = .bool true := hd.2.2.2.2.2.1
    have h6 : vals 6 = .bool true := hd.2.2.2.2.2.2.1
    have h7 : vals 7 = .bool true := hd.2.2.2.2.2.2.2.1
    have h8 : vals 8 = .agg (AV (orW (fun _ => 0) (btw 97 3))) := hd.2.2.2.2.2.2.2.2.1
    have h9 : vals 9 = .agg (AV fun _ => 0) := hd.2.2.2.2.2.2.2.2.2.1
    have h10 : vals 10 = .bool true := hd.2.2.2.2.2.2.2.2.2.2.1
    have h11 : vals 11 = .bool true := hd.2.2.2.2.2.2.2.2.2.2.2.1
    have h12 : vals 12 = .bool true := hd.2.2.2.2.2.2.2.2.2.2.2.2.1
    have h13 : vals 13 = (eV E) := hd.2.2.2.2.2.2.2.2.2.2.2.2.2.1
    have h14 : vals 14 = .int .i64 (nV E) := hd.2.2.2.2.2.2.2.2.2.2.2.2.2.2.1
    have h15 : vals 15 = .int .i64 (nV E) := hd.2.2.2.2.2.2.2.2.2.2.2.2.2.2.2.1
    have h16 : vals 16 = .bool true := hd.2.2.2.2.2.2.2.2.2.2.2.2.2.2.2.2.1
    have h17 : vals 17 = .bool true := hd.2.2.2.2.2.2.2.2.2.2.2.2.2.2.2.2.2.1
    have h18 : vals 18 = .bool true := hd.2.2.2.2.2.2.2.2.2.2.2.2.2.2.2.2.2.2.1
    have h19 : vals 19 = .agg (AV (sW E)) := hd.2.2.2.2.2.2.2.2.2.2.2.2.2.2.2.2.2.2.2.1
    have h20 : vals 20 = .agg (BV (bit (sW E))) := hd.2.2.2.2.2.2.2.2.2.2.2.2.2.2.2.2.2.2.2.2.1
    have h21 : vals 21 = .agg (BV (bit (sW E))) := hd.2.2.2.2.2.2.2.2.2.2.2.2.2.2.2.2.2.2.2.2.2.1
    have h22 : vals 22 = .bool true := hd.2.2.2.2.2.2.2.2.2.2.2.2.2.2.2.2.2.2.2.2.2.2.1
    have h23 : vals 23 = .bool true := hd.2.2.2.2.2.2.2.2.2.2.2.2.2.2.2.2.2.2.2.2.2.2.2.1
    have h24 : vals 24 = .bool true := hd.2.2.2.2.2.2.2.2.2.2.2.2.2.2.2.2.2.2.2.2.2.2.2.2.1
    clear hd
    simp only [putS, List.foldl_nil, List.foldl_cons, Act.put, List.setIfInBounds_toArray, List.set_cons_zero, List.set_cons_succ, List.drop_succ_cons, List.drop_zero, h0, h1, h2, h3, h4, h5, h6, h7, h8, h9, h10, h11, h12, h13, h14, h15, h16, h17, h18, h19, h20, h21, h22, h23, h24]
    have HEnd := Lib.hid (HE.out.trans hg)
    clear hg hfresh h0 h1 h2 h3 h4 h5 h6 h7 h8 h9 h10 h11 h12 h13 h14 h15 h16 h17 h18 h19 h20 h21 h22 h23 h24
    go_wp2
    go_ret
    exact ⟨rfl, HEnd.out⟩
end Go.Proofs.Ytaagfmpolcpimaa
