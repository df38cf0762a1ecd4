/-
  LettersetAlgebra: the law's walk: it returns true and writes nothing that was there. Conditions: words of 64 bits, a letter below 256.
-/
import Derived.Test.YtaagfmpolcpimaaWe
import Derived.Test.YtaagfmpolcpimaaEq
import Derived.Test.YtaagfmpolcpimaaVars
namespace Go.Proofs.Ytaagfmpolcpimaa
open Go.RowKit
attribute [local go_sem] OneStep growAt growUpon
set_option maxHeartbeats 4000000
set_option maxRecDepth 100000
set_option linter.unusedSimpArgs false
set_option linter.unusedVariables false

/-- three sets behind one another -/
def ABC (a b c : Nat → Nat) : Array Value := AV a ++ AV b ++ AV c
/-- three sets behind one another in a block -/
theorem abc_at (a b c : Nat → Nat) {w : World} {B : Nat} {t : TypeId} (h : w.heap[B]? = some (.cells (ABC a b c) t)) (k : Nat) (s : Nat → Nat) (hs : [a, b, c][k]? = some s) (j : Nat) (v : Value) (hv : (AV s).toList[j]? = some v) :
    w.cell? ⟨B, 4 * k + j, none⟩ = some v := by
  have hv' : (AV s)[j]? = some v := by simpa using hv
  have hj : j < 4 := by
    rcases Nat.lt_or_ge j 4 with h' | h'
    · exact h'
    · rw [Array.getElem?_eq_none (by rw [AV_size]; exact h')] at hv'; cases hv'
  rw [cell_of_row w B _ _ _ _ h]
  unfold ABC
  have hk : k = 0 ∨ k = 1 ∨ k = 2 := by
    have : k < 3 := by
      rcases Nat.lt_or_ge k 3 with h' | h'
      · exact h'
      · rw [List.getElem?_eq_none (by simpa using h')] at hs; cases hs
    omega
  rcases hk with rfl | rfl | rfl
  · simp at hs; subst hs
    rw [Array.getElem?_append_left (by rw [Array.size_append, AV_size, AV_size]; omega), Array.getElem?_append_left (by rw [AV_size]; omega), Nat.mul_zero, Nat.zero_add, hv']
  · simp at hs; subst hs
    rw [Array.getElem?_append_left (by rw [Array.size_append, AV_size, AV_size]; omega), Array.getElem?_append_right (by rw [AV_size]; omega), AV_size, show 4 * 1 + j - 4 = j by omega, hv']
  · simp at hs; subst hs
    rw [Array.getElem?_append_right (by rw [Array.size_append, AV_size, AV_size]; omega), Array.size_append, AV_size, AV_size, show 4 * 2 + j - (4 + 4) = j by omega, hv']
theorem abc_list (a b c : Nat → Nat) : (ABC a b c).toList = (AV a).toList ++ ((AV b).toList ++ (AV c).toList) := by simp [ABC]
attribute [irreducible] ABC
theorem eqS_of {s t : Nat → Nat} (hs : W64 s) (ht : W64 t) (h : ∀ b, b < 256 → bit s b = bit t b) : eqS s t = true := (eqS_iff hs ht).2 h
theorem cnt_or_and (m n : Nat → Bool) (k : Nat) : cnt (fun j => m j || n j) k + cnt (fun j => m j && n j) k = cnt m k + cnt n k := by
  induction k with
  | zero => rfl
  | succ k ih =>
    have h : (if (m k || n k) = true then 1 else 0) + (if (m k && n k) = true then 1 else 0) = (if m k = true then 1 else 0) + (if n k = true then 1 else 0) := by cases m k <;> cases n k <;> rfl
    simp only [cnt]
    omega
theorem cnt_not (m : Nat → Bool) (k : Nat) : cnt m k + cnt (fun j => !m j) k = k := by
  induction k with
  | zero => rfl
  | succ k ih =>
    have h : (if m k = true then 1 else 0) + (if (!m k) = true then 1 else 0) = 1 := by cases m k <;> rfl
    simp only [cnt]
    omega
set_option maxHeartbeats 16000000
theorem algebra_tt (a b c : Nat → Nat) (ha : W64 a) (hb : W64 b) (hc : W64 c) (x : Nat) (hx : x < 256) (w : World) (hp : bit a x = true) (hq : bit b x = true) :
    Calls Try.prog 8 #[.agg (ABC a b c), .int .u8 x] w fun e w' => e = .returned (.bool true) ∧ Below w.heap.size w w' := by
  have KU : Hid (bit (orW a b) x = (true || true)) := Lib.hid (by rw [bit_orW, hp, hq])
  have KM : Hid (bit (andW a b) x = (true && true)) := Lib.hid (by rw [bit_andW, hp, hq])
  have KD : Hid (bit (subW a b) x = (true && !true)) := Lib.hid (by rw [bit_subW hb, hp, hq])
  have KN : Hid (bit (notW a) x = !true) := Lib.hid (by rw [bit_notW ha, hp])
  have HP := Lib.hid hp
  have HQ := Lib.hid hq
  clear hp hq
  have E1 : Hid (eqS (orW a b) (orW b a) = true) := Lib.hid (eqS_of (orW_W64 ha hb) (orW_W64 hb ha) fun j _ => by rw [bit_orW, bit_orW, Bool.or_comm])
  have E2 : Hid (eqS (andW a b) (andW b a) = true) := Lib.hid (eqS_of (andW_W64 ha b) (andW_W64 hb a) fun j _ => by rw [bit_andW, bit_andW, Bool.and_comm])
  have E3 : Hid (eqS (notW (notW a)) a = true) := Lib.hid (eqS_of (notW_W64 _) ha fun j _ => by rw [bit_notW (notW_W64 a), bit_notW ha, Bool.not_not])
  have E4 : Hid (eqS (subW a b) (andW a (notW b)) = true) := Lib.hid (eqS_of (subW_W64 ha b) (andW_W64 ha _) fun j _ => by rw [bit_subW hb, bit_andW, bit_notW hb])
  have E5 : Hid (eqS (notW (orW a b)) (andW (notW a) (notW b)) = true) := Lib.hid (eqS_of (notW_W64 _) (andW_W64 (notW_W64 a) _) fun j _ => by rw [bit_notW (orW_W64 ha hb), bit_andW, bit_notW ha, bit_notW hb, bit_orW, Bool.not_or])
  have E6 : Hid (eqS (andW a (orW b c)) (orW (andW a b) (andW a c)) = true) := Lib.hid (eqS_of (andW_W64 ha _) (orW_W64 (andW_W64 ha b) (andW_W64 ha c)) fun j _ => by rw [bit_andW, bit_orW, bit_orW, bit_andW, bit_andW, Bool.and_or_distrib_left])
  obtain ⟨nu, hnu⟩ : ∃ n, n = cnt (bit (orW a b)) 256 := ⟨_, rfl⟩
  obtain ⟨nm, hnm⟩ : ∃ n, n = cnt (bit (andW a b)) 256 := ⟨_, rfl⟩
  obtain ⟨na, hna⟩ : ∃ n, n = cnt (bit a) 256 := ⟨_, rfl⟩
  obtain ⟨nb, hnb⟩ : ∃ n, n = cnt (bit b) 256 := ⟨_, rfl⟩
  obtain ⟨nn, hnn⟩ : ∃ n, n = cnt (bit (notW a)) 256 := ⟨_, rfl⟩
  have NS1 : Hid (nu + nm = na + nb) := Lib.hid (by
    rw [hnu, hnm, hna, hnb, cnt_congr 256 (fun j _ => bit_orW a b j), cnt_congr 256 (fun j _ => bit_andW a b j)]; exact cnt_or_and _ _ _)
  have NS2 : Hid (na + nn = 256) := Lib.hid (by rw [hna, hnn, cnt_congr 256 (fun j _ => bit_notW ha j)]; exact cnt_not _ _)
  have u1 : nu ≤ 256 := hnu ▸ cnt_le _ _
  have u2 : nm ≤ 256 := hnm ▸ cnt_le _ _
  have u3 : na ≤ 256 := hna ▸ cnt_le _ _
  have u4 : nb ≤ 256 := hnb ▸ cnt_le _ _
  have u5 : nn ≤ 256 := hnn ▸ cnt_le _ _
  have NU := Lib.hid hnu; have NM := Lib.hid hnm; have NA := Lib.hid hna; have NB := Lib.hid hnb; have NN := Lib.hid hnn
  clear hnu hnm hna hnb hnn
  simp only [Bool.or_false, Bool.or_true, Bool.and_false, Bool.and_true, Bool.not_true, Bool.not_false] at KU KM KD KN
  go_enter Try.func8, Try.ntmps8
  go_wp2_with fail
  obtain ⟨B0, hB0⟩ : ∃ B0, B0 = w.heap.size := ⟨_, rfl⟩
  have H0 := Lib.hid (heap_at w (.cells (ABC a b c) 45) B0 hB0)
  have HE : Hid (Grew w (w.alloc (.cells (ABC a b c) 45))) := Lib.hid (grew_alloc _ _)
  generalize w.alloc (.cells (ABC a b c) 45) = w1 at H0 HE ⊢
  rw [← hB0]
  clear hB0
  refine wp_region_vars [some (.pointer (some ⟨B0, 0, none⟩)), some (.agg (AV a)), some (.pointer (some ⟨B0, 4, none⟩)), some (.agg (AV b)), some (.pointer (some ⟨B0, 8, none⟩)), some (.agg (AV c)), none, none, none, none, none, none]
    [⟨6, 9, 1, 5, 15, (AV fun _ => 0), (AV a), 24⟩, ⟨7, 10, 3, 6, 17, (AV fun _ => 0), (AV b), 24⟩, ⟨8, 11, 5, 7, 19, (AV fun _ => 0), (AV c), 24⟩] [(6, 9), (7, 10), (8, 11)] [[], [(0, 14)], [], [(2, 16)], [], [(4, 18)], [], [], [], [(1, 15), (6, 5)], [(3, 17), (7, 6)], [(5, 19), (8, 7)]] [(0, 14), (1, 15), (2, 16), (3, 17), (4, 18), (5, 19), (6, 5), (7, 6), (8, 7)] [true, true, true, true, true, true, false, false, false, false, false, false] (by kernel_rfl) (by kernel_rfl) rfl rfl ?vars ⟨?o0, ?o1, ?o2, ?o3, ?o4, ?o5, trivial⟩ ?fin
  case vars => exact ⟨⟨⟨_, rfl, rfl, rfl, rfl⟩, ⟨_, rfl, rfl, rfl, rfl⟩, ⟨_, rfl, rfl⟩, rfl, by simp, by simp, z24, i24 _, by rw [AV_size, AV_size], AV_one _, rfl, rfl⟩, ⟨⟨_, rfl, rfl, rfl, rfl⟩, ⟨_, rfl, rfl, rfl, rfl⟩, ⟨_, rfl, rfl⟩, rfl, by simp, by simp, z24, i24 _, by rw [AV_size, AV_size], AV_one _, rfl, rfl⟩, ⟨⟨_, rfl, rfl, rfl, rfl⟩, ⟨_, rfl, rfl, rfl, rfl⟩, ⟨_, rfl, rfl⟩, rfl, by simp, by simp, z24, i24 _, by rw [AV_size, AV_size], AV_one _, rfl, rfl⟩, trivial⟩
  case o0 =>
    intro vals w' hg hd
    clear hd
    simp only [putS, List.foldl_nil]
    clear hg
    go_simp
    try go_bits
    exact isV_mk _ _
  case o1 =>
    intro vals w' hg hd
    have h0 : vals 0 = .pointer (some ⟨B0, 0, none⟩) := hd.1
    clear hd
    simp only [putS, List.foldl_nil, List.foldl_cons, Act.put, List.setIfInBounds_toArray, List.set_cons_zero, List.set_cons_succ, h0]
    exact one_load_mid (by rfl) 24 _ rfl B0 0 rfl (AV a).toList _ (fun j v hv => abc_at a b c (block_below' hg H0.out) 0 _ rfl j v hv) Try.underlying24 rfl (by rw [Array.length_toList]; exact i24 _) (by rw [Array.toArray_toList]; exact isV_mk _ _)
  case o2 =>
    intro vals w' hg hd
    clear hd
    simp only [putS, List.foldl_nil]
    clear hg
    go_simp
    try go_bits
    exact isV_mk _ _
  case o3 =>
    intro vals w' hg hd
    have h2 : vals 2 = .pointer (some ⟨B0, 4, none⟩) := hd.1
    clear hd
    simp only [putS, List.foldl_nil, List.foldl_cons, Act.put, List.setIfInBounds_toArray, List.set_cons_zero, List.set_cons_succ, h2]
    exact one_load_mid (by rfl) 24 _ rfl B0 4 rfl (AV b).toList _ (fun j v hv => abc_at a b c (block_below' hg H0.out) 1 _ rfl j v hv) Try.underlying24 rfl (by rw [Array.length_toList]; exact i24 _) (by rw [Array.toArray_toList]; exact isV_mk _ _)
  case o4 =>
    intro vals w' hg hd
    clear hd
    simp only [putS, List.foldl_nil]
    clear hg
    go_simp
    try go_bits
    exact isV_mk _ _
  case o5 =>
    intro vals w' hg hd
    have h4 : vals 4 = .pointer (some ⟨B0, 8, none⟩) := hd.1
    clear hd
    simp only [putS, List.foldl_nil, List.foldl_cons, Act.put, List.setIfInBounds_toArray, List.set_cons_zero, List.set_cons_succ, h4]
    exact one_load_mid (by rfl) 24 _ rfl B0 8 rfl (AV c).toList _ (fun j v hv => abc_at a b c (block_below' hg H0.out) 2 _ rfl j v hv) Try.underlying24 rfl (by rw [Array.length_toList]; exact i24 _) (by rw [Array.toArray_toList]; exact isV_mk _ _)
  case fin =>
    intro vals w' hg hd hvs hdist
    have h0 : vals 0 = .pointer (some ⟨B0, 0, none⟩) := hd.1
    have h1 : vals 1 = .agg (AV a) := hd.2.1
    have h2 : vals 2 = .pointer (some ⟨B0, 4, none⟩) := hd.2.2.1
    have h3 : vals 3 = .agg (AV b) := hd.2.2.2.1
    have h4 : vals 4 = .pointer (some ⟨B0, 8, none⟩) := hd.2.2.2.2.1
    have h5 : vals 5 = .agg (AV c) := hd.2.2.2.2.2.1
    clear hd
    obtain ⟨⟨b6, h6, hn6, hb6⟩, ⟨b7, h7, hn7, hb7⟩, ⟨b8, h8, hn8, hb8⟩, _⟩ := hvs
    simp only [putS, List.foldl_nil, List.foldl_cons, Act.put, List.setIfInBounds_toArray, List.set_cons_zero, List.set_cons_succ, h0, h1, h2, h3, h4, h5, h6, h7, h8]
    have HA := Lib.hid hb6; have HB := Lib.hid hb7; have HC := Lib.hid hb8
    have HE := Lib.hid (HE.out.trans hg)
    clear hg h0 h1 h2 h3 h4 h5 h6 h7 h8 hdist hb6 hb7 hb8 hn6 hn7 hn8 H0
    go_wp2_with fail
    refine wp_region_grows 8 [IsV (.agg (AV a)), IsV (.int .u8 x), IsV (.bool true), IsV (.agg (AV b)), IsV (.int .u8 x), IsV (.bool true), IsV (.bool true), IsV (.bool true)] []
      [[], [], [(0, 20), (1, 21)], [], [], [(3, 23), (4, 24)], [(2, 22)], [(5, 25)]] [(0, 20), (1, 21), (2, 22), (3, 23), (4, 24), (5, 25), (6, 8), (7, 9)] (by kernel_rfl) (by kernel_rfl) rfl ?stable ⟨?o0, ?o1, ?o2, ?o3, ?o4, ?o5, ?o6, ?o7, trivial⟩ ?fin
    case stable => exact ⟨IsV.stable _, IsV.stable _, IsV.stable _, IsV.stable _, IsV.stable _, IsV.stable _, IsV.stable _, IsV.stable _, trivial⟩
    case o0 =>
      intro vals w' hg hd
      clear hd
      simp only [putS, List.foldl_nil]
      exact one_load_row (by rfl) _ _ rfl _ rfl _ _ _ _ (block_below' hg HA.out) Try.underlying24 rfl (i24 _) (isV_mk _ _)
    case o1 =>
      intro vals w' hg hd
      clear hd
      simp only [putS, List.foldl_nil]
      clear hg
      go_simp
      try go_bits
      exact isV_mk _ _
    case o2 =>
      intro vals w' hg hd
      have h0 : vals 0 = .agg (AV a) := hd.1
      have h1 : vals 1 = .int .u8 x := hd.2.1
      clear hd
      simp only [putS, List.foldl_nil, List.foldl_cons, Act.put, List.setIfInBounds_toArray, List.set_cons_zero, List.set_cons_succ, h0, h1]
      clear hg h0 h1
      go_simp
      exact (has_c a ha x hx w').mono fun e w2 ⟨he, hb⟩ => ⟨_, he, hb, congrArg Value.bool HP.out⟩
    case o3 =>
      intro vals w' hg hd
      clear hd
      simp only [putS, List.foldl_nil]
      exact one_load_row (by rfl) _ _ rfl _ rfl _ _ _ _ (block_below' hg HB.out) Try.underlying24 rfl (i24 _) (isV_mk _ _)
    case o4 =>
      intro vals w' hg hd
      clear hd
      simp only [putS, List.foldl_nil]
      clear hg
      go_simp
      try go_bits
      exact isV_mk _ _
    case o5 =>
      intro vals w' hg hd
      have h3 : vals 3 = .agg (AV b) := hd.1
      have h4 : vals 4 = .int .u8 x := hd.2.1
      clear hd
      simp only [putS, List.foldl_nil, List.foldl_cons, Act.put, List.setIfInBounds_toArray, List.set_cons_zero, List.set_cons_succ, h3, h4]
      clear hg h3 h4
      go_simp
      exact (has_c b hb x hx w').mono fun e w2 ⟨he, hb⟩ => ⟨_, he, hb, congrArg Value.bool HQ.out⟩
    case o6 =>
      intro vals w' hg hd
      have h2 : vals 2 = .bool true := hd.1
      clear hd
      simp only [putS, List.foldl_nil, List.foldl_cons, Act.put, List.setIfInBounds_toArray, List.set_cons_zero, List.set_cons_succ, h2]
      clear hg h2
      go_simp
      try go_bits
      exact isV_mk _ _
    case o7 =>
      intro vals w' hg hd
      have h5 : vals 5 = .bool true := hd.1
      clear hd
      simp only [putS, List.foldl_nil, List.foldl_cons, Act.put, List.setIfInBounds_toArray, List.set_cons_zero, List.set_cons_succ, h5]
      clear hg h5
      go_simp
      try go_bits
      exact isV_mk _ _
    case fin =>
      intro vals w' hg hd hfresh
      have h0 : vals 0 = .agg (AV a) := hd.1
      have h1 : vals 1 = .int .u8 x := hd.2.1
      have h2 : vals 2 = .bool true := hd.2.2.1
      have h3 : vals 3 = .agg (AV b) := hd.2.2.2.1
      have h4 : vals 4 = .int .u8 x := hd.2.2.2.2.1
      have h5 : vals 5 = .bool true := hd.2.2.2.2.2.1
      have h6 : vals 6 = .bool true := hd.2.2.2.2.2.2.1
      have h7 : vals 7 = .bool true := hd.2.2.2.2.2.2.2.1
      clear hd
      simp only [putS, List.foldl_nil, List.foldl_cons, Act.put, List.setIfInBounds_toArray, List.set_cons_zero, List.set_cons_succ, List.drop_succ_cons, List.drop_zero, h0, h1, h2, h3, h4, h5, h6, h7]
      have HA := Lib.hid (block_below' hg HA.out)
      have HB := Lib.hid (block_below' hg HB.out)
      have HC := Lib.hid (block_below' hg HC.out)
      have HE := Lib.hid (HE.out.trans hg)
      clear hg h0 h1 h2 h3 h4 h5 h6 h7 hfresh
      go_wp2_with fail
      refine wp_region_vars [some (.agg (AV a)), some (.agg (AV b)), some (.agg (AV (orW a b))), some (.agg (AV a)), some (.agg (AV b)), some (.agg (AV (andW a b))), some (.agg (AV a)), some (.agg (AV b)), some (.agg (AV (subW a b))), some (.agg (AV a)), some (.agg (AV (notW a))), none, none, none, none, none, none, none, none]
        [⟨11, 15, 2, 10, 28, (AV fun _ => 0), (AV (orW a b)), 24⟩, ⟨12, 16, 5, 11, 31, (AV fun _ => 0), (AV (andW a b)), 24⟩, ⟨13, 17, 8, 12, 34, (AV fun _ => 0), (AV (subW a b)), 24⟩, ⟨14, 18, 10, 13, 36, (AV fun _ => 0), (AV (notW a)), 24⟩] [(11, 15), (12, 16), (13, 17), (14, 18)] [[], [], [(0, 26), (1, 27)], [], [], [(3, 29), (4, 30)], [], [], [(6, 32), (7, 33)], [], [(9, 35)], [], [], [], [], [(2, 28), (11, 10)], [(5, 31), (12, 11)], [(8, 34), (13, 12)], [(10, 36), (14, 13)]] [(0, 26), (1, 27), (2, 28), (3, 29), (4, 30), (5, 31), (6, 32), (7, 33), (8, 34), (9, 35), (10, 36), (11, 10), (12, 11), (13, 12), (14, 13)] [true, true, true, true, true, true, true, true, true, true, true, false, false, false, false, false, false, false, false] (by kernel_rfl) (by kernel_rfl) rfl rfl ?vars ⟨?o0, ?o1, ?o2, ?o3, ?o4, ?o5, ?o6, ?o7, ?o8, ?o9, ?o10, trivial⟩ ?fin
      case vars => exact ⟨⟨⟨_, rfl, rfl, rfl, rfl⟩, ⟨_, rfl, rfl, rfl, rfl⟩, ⟨_, rfl, rfl⟩, rfl, by simp, by simp, z24, i24 _, by rw [AV_size, AV_size], AV_one _, rfl, rfl⟩, ⟨⟨_, rfl, rfl, rfl, rfl⟩, ⟨_, rfl, rfl, rfl, rfl⟩, ⟨_, rfl, rfl⟩, rfl, by simp, by simp, z24, i24 _, by rw [AV_size, AV_size], AV_one _, rfl, rfl⟩, ⟨⟨_, rfl, rfl, rfl, rfl⟩, ⟨_, rfl, rfl, rfl, rfl⟩, ⟨_, rfl, rfl⟩, rfl, by simp, by simp, z24, i24 _, by rw [AV_size, AV_size], AV_one _, rfl, rfl⟩, ⟨⟨_, rfl, rfl, rfl, rfl⟩, ⟨_, rfl, rfl, rfl, rfl⟩, ⟨_, rfl, rfl⟩, rfl, by simp, by simp, z24, i24 _, by rw [AV_size, AV_size], AV_one _, rfl, rfl⟩, trivial⟩
      case o0 =>
        intro vals w' hg hd
        clear hd
        simp only [putS, List.foldl_nil]
        exact one_load_row (by rfl) _ _ rfl _ rfl _ _ _ _ (block_below' hg HA.out) Try.underlying24 rfl (i24 _) (isV_mk _ _)
      case o1 =>
        intro vals w' hg hd
        clear hd
        simp only [putS, List.foldl_nil]
        exact one_load_row (by rfl) _ _ rfl _ rfl _ _ _ _ (block_below' hg HB.out) Try.underlying24 rfl (i24 _) (isV_mk _ _)
      case o2 =>
        intro vals w' hg hd
        have h0 : vals 0 = .agg (AV a) := hd.1
        have h1 : vals 1 = .agg (AV b) := hd.2.1
        clear hd
        simp only [putS, List.foldl_nil, List.foldl_cons, Act.put, List.setIfInBounds_toArray, List.set_cons_zero, List.set_cons_succ, h0, h1]
        clear hg h0 h1
        go_simp
        exact (union_c a b ha hb w').mono fun e w2 ⟨he, hb⟩ => ⟨_, he, hb, isV_mk _ _⟩
      case o3 =>
        intro vals w' hg hd
        clear hd
        simp only [putS, List.foldl_nil]
        exact one_load_row (by rfl) _ _ rfl _ rfl _ _ _ _ (block_below' hg HA.out) Try.underlying24 rfl (i24 _) (isV_mk _ _)
      case o4 =>
        intro vals w' hg hd
        clear hd
        simp only [putS, List.foldl_nil]
        exact one_load_row (by rfl) _ _ rfl _ rfl _ _ _ _ (block_below' hg HB.out) Try.underlying24 rfl (i24 _) (isV_mk _ _)
      case o5 =>
        intro vals w' hg hd
        have h3 : vals 3 = .agg (AV a) := hd.1
        have h4 : vals 4 = .agg (AV b) := hd.2.1
        clear hd
        simp only [putS, List.foldl_nil, List.foldl_cons, Act.put, List.setIfInBounds_toArray, List.set_cons_zero, List.set_cons_succ, h3, h4]
        clear hg h3 h4
        go_simp
        exact (meet_c a b ha hb w').mono fun e w2 ⟨he, hb⟩ => ⟨_, he, hb, isV_mk _ _⟩
      case o6 =>
        intro vals w' hg hd
        clear hd
        simp only [putS, List.foldl_nil]
        exact one_load_row (by rfl) _ _ rfl _ rfl _ _ _ _ (block_below' hg HA.out) Try.underlying24 rfl (i24 _) (isV_mk _ _)
      case o7 =>
        intro vals w' hg hd
        clear hd
        simp only [putS, List.foldl_nil]
        exact one_load_row (by rfl) _ _ rfl _ rfl _ _ _ _ (block_below' hg HB.out) Try.underlying24 rfl (i24 _) (isV_mk _ _)
      case o8 =>
        intro vals w' hg hd
        have h6 : vals 6 = .agg (AV a) := hd.1
        have h7 : vals 7 = .agg (AV b) := hd.2.1
        clear hd
        simp only [putS, List.foldl_nil, List.foldl_cons, Act.put, List.setIfInBounds_toArray, List.set_cons_zero, List.set_cons_succ, h6, h7]
        clear hg h6 h7
        go_simp
        exact (minus_c a b ha hb w').mono fun e w2 ⟨he, hb⟩ => ⟨_, he, hb, isV_mk _ _⟩
      case o9 =>
        intro vals w' hg hd
        clear hd
        simp only [putS, List.foldl_nil]
        exact one_load_row (by rfl) _ _ rfl _ rfl _ _ _ _ (block_below' hg HA.out) Try.underlying24 rfl (i24 _) (isV_mk _ _)
      case o10 =>
        intro vals w' hg hd
        have h9 : vals 9 = .agg (AV a) := hd.1
        clear hd
        simp only [putS, List.foldl_nil, List.foldl_cons, Act.put, List.setIfInBounds_toArray, List.set_cons_zero, List.set_cons_succ, h9]
        clear hg h9
        go_simp
        exact (not_c a ha w').mono fun e w2 ⟨he, hb⟩ => ⟨_, he, hb, isV_mk _ _⟩
      case fin =>
        intro vals w' hg hd hvs hdist
        have h0 : vals 0 = .agg (AV a) := hd.1
        have h1 : vals 1 = .agg (AV b) := hd.2.1
        have h2 : vals 2 = .agg (AV (orW a b)) := hd.2.2.1
        have h3 : vals 3 = .agg (AV a) := hd.2.2.2.1
        have h4 : vals 4 = .agg (AV b) := hd.2.2.2.2.1
        have h5 : vals 5 = .agg (AV (andW a b)) := hd.2.2.2.2.2.1
        have h6 : vals 6 = .agg (AV a) := hd.2.2.2.2.2.2.1
        have h7 : vals 7 = .agg (AV b) := hd.2.2.2.2.2.2.2.1
        have h8 : vals 8 = .agg (AV (subW a b)) := hd.2.2.2.2.2.2.2.2.1
        have h9 : vals 9 = .agg (AV a) := hd.2.2.2.2.2.2.2.2.2.1
        have h10 : vals 10 = .agg (AV (notW a)) := hd.2.2.2.2.2.2.2.2.2.2.1
        clear hd
        obtain ⟨⟨b11, h11, hn11, hb11⟩, ⟨b12, h12, hn12, hb12⟩, ⟨b13, h13, hn13, hb13⟩, ⟨b14, h14, hn14, hb14⟩, _⟩ := hvs
        simp only [putS, List.foldl_nil, List.foldl_cons, Act.put, List.setIfInBounds_toArray, List.set_cons_zero, List.set_cons_succ, h0, h1, h2, h3, h4, h5, h6, h7, h8, h9, h10, h11, h12, h13, h14]
        have HU := Lib.hid hb11; have HM := Lib.hid hb12; have HD := Lib.hid hb13; have HN := Lib.hid hb14
        have HA := Lib.hid (block_below' hg HA.out)
        have HB := Lib.hid (block_below' hg HB.out)
        have HC := Lib.hid (block_below' hg HC.out)
        have HE := Lib.hid (HE.out.trans hg)
        clear hg h0 h1 h2 h3 h4 h5 h6 h7 h8 h9 h10 h11 h12 h13 h14 hdist hb11 hb12 hb13 hb14 hn11 hn12 hn13 hn14
        go_wp2_with (first | (refine wpList_load_row rfl 24 _ rfl _ rfl _ _ _ _ HU.out Try.underlying24 rfl (i24 _) ?_; simp only [Act.put, List.setIfInBounds_toArray, List.set_cons_zero, List.set_cons_succ]) | (refine wpList_load_row_g (by rfl) 24 _ rfl _ rfl _ _ _ _ HU.out Try.underlying24 rfl (i24 _) ?_; simp only [Act.put, List.setIfInBounds_toArray, List.set_cons_zero, List.set_cons_succ]) | (refine wpList_load_row rfl 24 _ rfl _ rfl _ _ _ _ HM.out Try.underlying24 rfl (i24 _) ?_; simp only [Act.put, List.setIfInBounds_toArray, List.set_cons_zero, List.set_cons_succ]) | (refine wpList_load_row_g (by rfl) 24 _ rfl _ rfl _ _ _ _ HM.out Try.underlying24 rfl (i24 _) ?_; simp only [Act.put, List.setIfInBounds_toArray, List.set_cons_zero, List.set_cons_succ]) | (refine wpList_load_row rfl 24 _ rfl _ rfl _ _ _ _ HD.out Try.underlying24 rfl (i24 _) ?_; simp only [Act.put, List.setIfInBounds_toArray, List.set_cons_zero, List.set_cons_succ]) | (refine wpList_load_row_g (by rfl) 24 _ rfl _ rfl _ _ _ _ HD.out Try.underlying24 rfl (i24 _) ?_; simp only [Act.put, List.setIfInBounds_toArray, List.set_cons_zero, List.set_cons_succ]) | (refine wpList_load_row rfl 24 _ rfl _ rfl _ _ _ _ HN.out Try.underlying24 rfl (i24 _) ?_; simp only [Act.put, List.setIfInBounds_toArray, List.set_cons_zero, List.set_cons_succ]) | (refine wpList_load_row_g (by rfl) 24 _ rfl _ rfl _ _ _ _ HN.out Try.underlying24 rfl (i24 _) ?_; simp only [Act.put, List.setIfInBounds_toArray, List.set_cons_zero, List.set_cons_succ]))
        refine (has_c _ (orW_W64 ha hb) x hx _).mono ?_
        rw [KU.out]
        rintro e w2 ⟨rfl, hg⟩
        have HA := Lib.hid (block_below' hg HA.out)
        have HB := Lib.hid (block_below' hg HB.out)
        have HC := Lib.hid (block_below' hg HC.out)
        have HU := Lib.hid (block_below' hg HU.out)
        have HM := Lib.hid (block_below' hg HM.out)
        have HD := Lib.hid (block_below' hg HD.out)
        have HN := Lib.hid (block_below' hg HN.out)
        have HE := Lib.hid (HE.out.trans hg)
        clear hg
        go_wp2_with (first | (refine wpList_load_row rfl 24 _ rfl _ rfl _ _ _ _ HU.out Try.underlying24 rfl (i24 _) ?_; simp only [Act.put, List.setIfInBounds_toArray, List.set_cons_zero, List.set_cons_succ]) | (refine wpList_load_row_g (by rfl) 24 _ rfl _ rfl _ _ _ _ HU.out Try.underlying24 rfl (i24 _) ?_; simp only [Act.put, List.setIfInBounds_toArray, List.set_cons_zero, List.set_cons_succ]) | (refine wpList_load_row rfl 24 _ rfl _ rfl _ _ _ _ HM.out Try.underlying24 rfl (i24 _) ?_; simp only [Act.put, List.setIfInBounds_toArray, List.set_cons_zero, List.set_cons_succ]) | (refine wpList_load_row_g (by rfl) 24 _ rfl _ rfl _ _ _ _ HM.out Try.underlying24 rfl (i24 _) ?_; simp only [Act.put, List.setIfInBounds_toArray, List.set_cons_zero, List.set_cons_succ]) | (refine wpList_load_row rfl 24 _ rfl _ rfl _ _ _ _ HD.out Try.underlying24 rfl (i24 _) ?_; simp only [Act.put, List.setIfInBounds_toArray, List.set_cons_zero, List.set_cons_succ]) | (refine wpList_load_row_g (by rfl) 24 _ rfl _ rfl _ _ _ _ HD.out Try.underlying24 rfl (i24 _) ?_; simp only [Act.put, List.setIfInBounds_toArray, List.set_cons_zero, List.set_cons_succ]) | (refine wpList_load_row rfl 24 _ rfl _ rfl _ _ _ _ HN.out Try.underlying24 rfl (i24 _) ?_; simp only [Act.put, List.setIfInBounds_toArray, List.set_cons_zero, List.set_cons_succ]) | (refine wpList_load_row_g (by rfl) 24 _ rfl _ rfl _ _ _ _ HN.out Try.underlying24 rfl (i24 _) ?_; simp only [Act.put, List.setIfInBounds_toArray, List.set_cons_zero, List.set_cons_succ]))
        refine (has_c _ (andW_W64 ha b) x hx _).mono ?_
        rw [KM.out]
        rintro e w2 ⟨rfl, hg⟩
        have HA := Lib.hid (block_below' hg HA.out)
        have HB := Lib.hid (block_below' hg HB.out)
        have HC := Lib.hid (block_below' hg HC.out)
        have HU := Lib.hid (block_below' hg HU.out)
        have HM := Lib.hid (block_below' hg HM.out)
        have HD := Lib.hid (block_below' hg HD.out)
        have HN := Lib.hid (block_below' hg HN.out)
        have HE := Lib.hid (HE.out.trans hg)
        clear hg
        go_wp2_with (first | (refine wpList_load_row rfl 24 _ rfl _ rfl _ _ _ _ HU.out Try.underlying24 rfl (i24 _) ?_; simp only [Act.put, List.setIfInBounds_toArray, List.set_cons_zero, List.set_cons_succ]) | (refine wpList_load_row_g (by rfl) 24 _ rfl _ rfl _ _ _ _ HU.out Try.underlying24 rfl (i24 _) ?_; simp only [Act.put, List.setIfInBounds_toArray, List.set_cons_zero, List.set_cons_succ]) | (refine wpList_load_row rfl 24 _ rfl _ rfl _ _ _ _ HM.out Try.underlying24 rfl (i24 _) ?_; simp only [Act.put, List.setIfInBounds_toArray, List.set_cons_zero, List.set_cons_succ]) | (refine wpList_load_row_g (by rfl) 24 _ rfl _ rfl _ _ _ _ HM.out Try.underlying24 rfl (i24 _) ?_; simp only [Act.put, List.setIfInBounds_toArray, List.set_cons_zero, List.set_cons_succ]) | (refine wpList_load_row rfl 24 _ rfl _ rfl _ _ _ _ HD.out Try.underlying24 rfl (i24 _) ?_; simp only [Act.put, List.setIfInBounds_toArray, List.set_cons_zero, List.set_cons_succ]) | (refine wpList_load_row_g (by rfl) 24 _ rfl _ rfl _ _ _ _ HD.out Try.underlying24 rfl (i24 _) ?_; simp only [Act.put, List.setIfInBounds_toArray, List.set_cons_zero, List.set_cons_succ]) | (refine wpList_load_row rfl 24 _ rfl _ rfl _ _ _ _ HN.out Try.underlying24 rfl (i24 _) ?_; simp only [Act.put, List.setIfInBounds_toArray, List.set_cons_zero, List.set_cons_succ]) | (refine wpList_load_row_g (by rfl) 24 _ rfl _ rfl _ _ _ _ HN.out Try.underlying24 rfl (i24 _) ?_; simp only [Act.put, List.setIfInBounds_toArray, List.set_cons_zero, List.set_cons_succ]))
        refine (has_c _ (subW_W64 ha b) x hx _).mono ?_
        rw [KD.out]
        rintro e w2 ⟨rfl, hg⟩
        have HA := Lib.hid (block_below' hg HA.out)
        have HB := Lib.hid (block_below' hg HB.out)
        have HC := Lib.hid (block_below' hg HC.out)
        have HU := Lib.hid (block_below' hg HU.out)
        have HM := Lib.hid (block_below' hg HM.out)
        have HD := Lib.hid (block_below' hg HD.out)
        have HN := Lib.hid (block_below' hg HN.out)
        have HE := Lib.hid (HE.out.trans hg)
        clear hg
        go_wp2_with (first | (refine wpList_load_row rfl 24 _ rfl _ rfl _ _ _ _ HU.out Try.underlying24 rfl (i24 _) ?_; simp only [Act.put, List.setIfInBounds_toArray, List.set_cons_zero, List.set_cons_succ]) | (refine wpList_load_row_g (by rfl) 24 _ rfl _ rfl _ _ _ _ HU.out Try.underlying24 rfl (i24 _) ?_; simp only [Act.put, List.setIfInBounds_toArray, List.set_cons_zero, List.set_cons_succ]) | (refine wpList_load_row rfl 24 _ rfl _ rfl _ _ _ _ HM.out Try.underlying24 rfl (i24 _) ?_; simp only [Act.put, List.setIfInBounds_toArray, List.set_cons_zero, List.set_cons_succ]) | (refine wpList_load_row_g (by rfl) 24 _ rfl _ rfl _ _ _ _ HM.out Try.underlying24 rfl (i24 _) ?_; simp only [Act.put, List.setIfInBounds_toArray, List.set_cons_zero, List.set_cons_succ]) | (refine wpList_load_row rfl 24 _ rfl _ rfl _ _ _ _ HD.out Try.underlying24 rfl (i24 _) ?_; simp only [Act.put, List.setIfInBounds_toArray, List.set_cons_zero, List.set_cons_succ]) | (refine wpList_load_row_g (by rfl) 24 _ rfl _ rfl _ _ _ _ HD.out Try.underlying24 rfl (i24 _) ?_; simp only [Act.put, List.setIfInBounds_toArray, List.set_cons_zero, List.set_cons_succ]) | (refine wpList_load_row rfl 24 _ rfl _ rfl _ _ _ _ HN.out Try.underlying24 rfl (i24 _) ?_; simp only [Act.put, List.setIfInBounds_toArray, List.set_cons_zero, List.set_cons_succ]) | (refine wpList_load_row_g (by rfl) 24 _ rfl _ rfl _ _ _ _ HN.out Try.underlying24 rfl (i24 _) ?_; simp only [Act.put, List.setIfInBounds_toArray, List.set_cons_zero, List.set_cons_succ]))
        refine (has_c _ (notW_W64 a) x hx _).mono ?_
        rw [KN.out]
        rintro e w2 ⟨rfl, hg⟩
        have HA := Lib.hid (block_below' hg HA.out)
        have HB := Lib.hid (block_below' hg HB.out)
        have HC := Lib.hid (block_below' hg HC.out)
        have HU := Lib.hid (block_below' hg HU.out)
        have HM := Lib.hid (block_below' hg HM.out)
        have HD := Lib.hid (block_below' hg HD.out)
        have HN := Lib.hid (block_below' hg HN.out)
        have HE := Lib.hid (HE.out.trans hg)
        clear hg
        go_wp2_with fail
        refine wp_region_grows 26 [IsV (.agg (AV (orW a b))), IsV (.agg (AV (b))), IsV (.agg (AV (a))), IsV (.agg (AV (orW b a))), IsV (.bool false), IsV (.bool false), IsV (.agg (AV (andW a b))), IsV (.agg (AV (b))), IsV (.agg (AV (a))), IsV (.agg (AV (andW b a))), IsV (.bool false), IsV (.bool false), IsV (.bool false), IsV (.agg (AV (notW a))), IsV (.agg (AV (notW (notW a)))), IsV (.agg (AV (a))), IsV (.bool false), IsV (.bool false), IsV (.bool false), IsV (.agg (AV (subW a b))), IsV (.agg (AV (a))), IsV (.agg (AV (b))), IsV (.agg (AV (notW b))), IsV (.agg (AV (andW a (notW b)))), IsV (.bool false), IsV (.bool false)] []
          [[], [], [], [(1, 74), (2, 75)], [(0, 73), (3, 76)], [(4, 77)], [(5, 78)], [(5, 78)], [(5, 78)], [(5, 78), (7, 80), (8, 81)], [(5, 78), (6, 79), (9, 82)], [(5, 78), (10, 83)], [(11, 84)], [(12, 85)], [(12, 85), (13, 86)], [(12, 85)], [(12, 85), (14, 87), (15, 88)], [(12, 85), (16, 89)], [(17, 90)], [(18, 91)], [(18, 91)], [(18, 91)], [(18, 91), (21, 94)], [(18, 91), (20, 93), (22, 95)], [(18, 91), (19, 92), (23, 96)], [(18, 91), (24, 97)]] [(0, 73), (1, 74), (2, 75), (3, 76), (4, 77), (5, 78), (6, 79), (7, 80), (8, 81), (9, 82), (10, 83), (11, 84), (12, 85), (13, 86), (14, 87), (15, 88), (16, 89), (17, 90), (18, 91), (19, 92), (20, 93), (21, 94), (22, 95), (23, 96), (24, 97), (25, 98)] (by kernel_rfl) (by kernel_rfl) rfl ?stable ⟨?o0, ?o1, ?o2, ?o3, ?o4, ?o5, ?o6, ?o7, ?o8, ?o9, ?o10, ?o11, ?o12, ?o13, ?o14, ?o15, ?o16, ?o17, ?o18, ?o19, ?o20, ?o21, ?o22, ?o23, ?o24, ?o25, trivial⟩ ?fin
        case stable => exact ⟨IsV.stable _, IsV.stable _, IsV.stable _, IsV.stable _, IsV.stable _, IsV.stable _, IsV.stable _, IsV.stable _, IsV.stable _, IsV.stable _, IsV.stable _, IsV.stable _, IsV.stable _, IsV.stable _, IsV.stable _, IsV.stable _, IsV.stable _, IsV.stable _, IsV.stable _, IsV.stable _, IsV.stable _, IsV.stable _, IsV.stable _, IsV.stable _, IsV.stable _, IsV.stable _, trivial⟩
        case o0 =>
          intro vals w' hg hd
          clear hd
          simp only [putS, List.foldl_nil]
          exact one_load_row (by rfl) _ _ rfl _ rfl _ _ _ _ (block_below' hg HU.out) Try.underlying24 rfl (i24 _) (isV_mk _ _)
        case o1 =>
          intro vals w' hg hd
          clear hd
          simp only [putS, List.foldl_nil]
          exact one_load_row (by rfl) _ _ rfl _ rfl _ _ _ _ (block_below' hg HB.out) Try.underlying24 rfl (i24 _) (isV_mk _ _)
        case o2 =>
          intro vals w' hg hd
          clear hd
          simp only [putS, List.foldl_nil]
          exact one_load_row (by rfl) _ _ rfl _ rfl _ _ _ _ (block_below' hg HA.out) Try.underlying24 rfl (i24 _) (isV_mk _ _)
        case o3 =>
          intro vals w' hg hd
          have h1 : vals 1 = .agg (AV (b)) := hd.1
          have h2 : vals 2 = .agg (AV (a)) := hd.2.1
          clear hd
          simp only [putS, List.foldl_nil, List.foldl_cons, Act.put, List.setIfInBounds_toArray, List.set_cons_zero, List.set_cons_succ, h1, h2]
          clear hg h1 h2
          go_simp
          exact (union_c b a hb ha w').mono fun e w2 ⟨he, hb⟩ => ⟨_, he, hb, isV_mk _ _⟩
        case o4 =>
          intro vals w' hg hd
          have h0 : vals 0 = .agg (AV (orW a b)) := hd.1
          have h3 : vals 3 = .agg (AV (orW b a)) := hd.2.1
          clear hd
          simp only [putS, List.foldl_nil, List.foldl_cons, Act.put, List.setIfInBounds_toArray, List.set_cons_zero, List.set_cons_succ, h0, h3]
          have heq0 := fun w => eq_AV_true E1.out w
          clear hg h0 h3
          go_simp
          exact isV_mk _ _
        case o5 =>
          intro vals w' hg hd
          have h4 : vals 4 = .bool false := hd.1
          clear hd
          simp only [putS, List.foldl_nil, List.foldl_cons, Act.put, List.setIfInBounds_toArray, List.set_cons_zero, List.set_cons_succ, h4]
          clear hg h4
          go_simp
          try go_bits
          exact isV_mk _ _
        case o6 =>
          intro vals w' hg hd
          have h5 : vals 5 = .bool false := hd.1
          clear hd
          simp only [putS, List.foldl_nil, List.foldl_cons, Act.put, List.setIfInBounds_toArray, List.set_cons_zero, List.set_cons_succ, h5]
          exact one_load_row (by rfl) _ _ rfl _ rfl _ _ _ _ (block_below' hg HM.out) Try.underlying24 rfl (i24 _) (isV_mk _ _)
        case o7 =>
          intro vals w' hg hd
          have h5 : vals 5 = .bool false := hd.1
          clear hd
          simp only [putS, List.foldl_nil, List.foldl_cons, Act.put, List.setIfInBounds_toArray, List.set_cons_zero, List.set_cons_succ, h5]
          exact one_load_row (by rfl) _ _ rfl _ rfl _ _ _ _ (block_below' hg HB.out) Try.underlying24 rfl (i24 _) (isV_mk _ _)
        case o8 =>
          intro vals w' hg hd
          have h5 : vals 5 = .bool false := hd.1
          clear hd
          simp only [putS, List.foldl_nil, List.foldl_cons, Act.put, List.setIfInBounds_toArray, List.set_cons_zero, List.set_cons_succ, h5]
          exact one_load_row (by rfl) _ _ rfl _ rfl _ _ _ _ (block_below' hg HA.out) Try.underlying24 rfl (i24 _) (isV_mk _ _)
        case o9 =>
          intro vals w' hg hd
          have h5 : vals 5 = .bool false := hd.1
          have h7 : vals 7 = .agg (AV (b)) := hd.2.1
          have h8 : vals 8 = .agg (AV (a)) := hd.2.2.1
          clear hd
          simp only [putS, List.foldl_nil, List.foldl_cons, Act.put, List.setIfInBounds_toArray, List.set_cons_zero, List.set_cons_succ, h5, h7, h8]
          clear hg h5 h7 h8
          go_simp
          exact (meet_c b a hb ha w').mono fun e w2 ⟨he, hb⟩ => ⟨_, he, hb, isV_mk _ _⟩
        case o10 =>
          intro vals w' hg hd
          have h5 : vals 5 = .bool false := hd.1
          have h6 : vals 6 = .agg (AV (andW a b)) := hd.2.1
          have h9 : vals 9 = .agg (AV (andW b a)) := hd.2.2.1
          clear hd
          simp only [putS, List.foldl_nil, List.foldl_cons, Act.put, List.setIfInBounds_toArray, List.set_cons_zero, List.set_cons_succ, h5, h6, h9]
          have heq0 := fun w => eq_AV_true E2.out w
          clear hg h5 h6 h9
          go_simp
          exact isV_mk _ _
        case o11 =>
          intro vals w' hg hd
          have h5 : vals 5 = .bool false := hd.1
          have h10 : vals 10 = .bool false := hd.2.1
          clear hd
          simp only [putS, List.foldl_nil, List.foldl_cons, Act.put, List.setIfInBounds_toArray, List.set_cons_zero, List.set_cons_succ, h5, h10]
          clear hg h5 h10
          go_simp
          try go_bits
          exact isV_mk _ _
        case o12 =>
          intro vals w' hg hd
          have h11 : vals 11 = .bool false := hd.1
          clear hd
          simp only [putS, List.foldl_nil, List.foldl_cons, Act.put, List.setIfInBounds_toArray, List.set_cons_zero, List.set_cons_succ, h11]
          clear hg h11
          go_simp
          try go_bits
          exact isV_mk _ _
        case o13 =>
          intro vals w' hg hd
          have h12 : vals 12 = .bool false := hd.1
          clear hd
          simp only [putS, List.foldl_nil, List.foldl_cons, Act.put, List.setIfInBounds_toArray, List.set_cons_zero, List.set_cons_succ, h12]
          exact one_load_row (by rfl) _ _ rfl _ rfl _ _ _ _ (block_below' hg HN.out) Try.underlying24 rfl (i24 _) (isV_mk _ _)
        case o14 =>
          intro vals w' hg hd
          have h12 : vals 12 = .bool false := hd.1
          have h13 : vals 13 = .agg (AV (notW a)) := hd.2.1
          clear hd
          simp only [putS, List.foldl_nil, List.foldl_cons, Act.put, List.setIfInBounds_toArray, List.set_cons_zero, List.set_cons_succ, h12, h13]
          clear hg h12 h13
          go_simp
          exact (not_c _ (notW_W64 a) w').mono fun e w2 ⟨he, hb⟩ => ⟨_, he, hb, isV_mk _ _⟩
        case o15 =>
          intro vals w' hg hd
          have h12 : vals 12 = .bool false := hd.1
          clear hd
          simp only [putS, List.foldl_nil, List.foldl_cons, Act.put, List.setIfInBounds_toArray, List.set_cons_zero, List.set_cons_succ, h12]
          exact one_load_row (by rfl) _ _ rfl _ rfl _ _ _ _ (block_below' hg HA.out) Try.underlying24 rfl (i24 _) (isV_mk _ _)
        case o16 =>
          intro vals w' hg hd
          have h12 : vals 12 = .bool false := hd.1
          have h14 : vals 14 = .agg (AV (notW (notW a))) := hd.2.1
          have h15 : vals 15 = .agg (AV (a)) := hd.2.2.1
          clear hd
          simp only [putS, List.foldl_nil, List.foldl_cons, Act.put, List.setIfInBounds_toArray, List.set_cons_zero, List.set_cons_succ, h12, h14, h15]
          have heq0 := fun w => eq_AV_true E3.out w
          clear hg h12 h14 h15
          go_simp
          exact isV_mk _ _
        case o17 =>
          intro vals w' hg hd
          have h12 : vals 12 = .bool false := hd.1
          have h16 : vals 16 = .bool false := hd.2.1
          clear hd
          simp only [putS, List.foldl_nil, List.foldl_cons, Act.put, List.setIfInBounds_toArray, List.set_cons_zero, List.set_cons_succ, h12, h16]
          clear hg h12 h16
          go_simp
          try go_bits
          exact isV_mk _ _
        case o18 =>
          intro vals w' hg hd
          have h17 : vals 17 = .bool false := hd.1
          clear hd
          simp only [putS, List.foldl_nil, List.foldl_cons, Act.put, List.setIfInBounds_toArray, List.set_cons_zero, List.set_cons_succ, h17]
          clear hg h17
          go_simp
          try go_bits
          exact isV_mk _ _
        case o19 =>
          intro vals w' hg hd
          have h18 : vals 18 = .bool false := hd.1
          clear hd
          simp only [putS, List.foldl_nil, List.foldl_cons, Act.put, List.setIfInBounds_toArray, List.set_cons_zero, List.set_cons_succ, h18]
          exact one_load_row (by rfl) _ _ rfl _ rfl _ _ _ _ (block_below' hg HD.out) Try.underlying24 rfl (i24 _) (isV_mk _ _)
        case o20 =>
          intro vals w' hg hd
          have h18 : vals 18 = .bool false := hd.1
          clear hd
          simp only [putS, List.foldl_nil, List.foldl_cons, Act.put, List.setIfInBounds_toArray, List.set_cons_zero, List.set_cons_succ, h18]
          exact one_load_row (by rfl) _ _ rfl _ rfl _ _ _ _ (block_below' hg HA.out) Try.underlying24 rfl (i24 _) (isV_mk _ _)
        case o21 =>
          intro vals w' hg hd
          have h18 : vals 18 = .bool false := hd.1
          clear hd
          simp only [putS, List.foldl_nil, List.foldl_cons, Act.put, List.setIfInBounds_toArray, List.set_cons_zero, List.set_cons_succ, h18]
          exact one_load_row (by rfl) _ _ rfl _ rfl _ _ _ _ (block_below' hg HB.out) Try.underlying24 rfl (i24 _) (isV_mk _ _)
        case o22 =>
          intro vals w' hg hd
          have h18 : vals 18 = .bool false := hd.1
          have h21 : vals 21 = .agg (AV (b)) := hd.2.1
          clear hd
          simp only [putS, List.foldl_nil, List.foldl_cons, Act.put, List.setIfInBounds_toArray, List.set_cons_zero, List.set_cons_succ, h18, h21]
          clear hg h18 h21
          go_simp
          exact (not_c b hb w').mono fun e w2 ⟨he, hb⟩ => ⟨_, he, hb, isV_mk _ _⟩
        case o23 =>
          intro vals w' hg hd
          have h18 : vals 18 = .bool false := hd.1
          have h20 : vals 20 = .agg (AV (a)) := hd.2.1
          have h22 : vals 22 = .agg (AV (notW b)) := hd.2.2.1
          clear hd
          simp only [putS, List.foldl_nil, List.foldl_cons, Act.put, List.setIfInBounds_toArray, List.set_cons_zero, List.set_cons_succ, h18, h20, h22]
          clear hg h18 h20 h22
          go_simp
          exact (meet_c a _ ha (notW_W64 b) w').mono fun e w2 ⟨he, hb⟩ => ⟨_, he, hb, isV_mk _ _⟩
        case o24 =>
          intro vals w' hg hd
          have h18 : vals 18 = .bool false := hd.1
          have h19 : vals 19 = .agg (AV (subW a b)) := hd.2.1
          have h23 : vals 23 = .agg (AV (andW a (notW b))) := hd.2.2.1
          clear hd
          simp only [putS, List.foldl_nil, List.foldl_cons, Act.put, List.setIfInBounds_toArray, List.set_cons_zero, List.set_cons_succ, h18, h19, h23]
          have heq0 := fun w => eq_AV_true E4.out w
          clear hg h18 h19 h23
          go_simp
          exact isV_mk _ _
        case o25 =>
          intro vals w' hg hd
          have h18 : vals 18 = .bool false := hd.1
          have h24 : vals 24 = .bool false := hd.2.1
          clear hd
          simp only [putS, List.foldl_nil, List.foldl_cons, Act.put, List.setIfInBounds_toArray, List.set_cons_zero, List.set_cons_succ, h18, h24]
          clear hg h18 h24
          go_simp
          try go_bits
          exact isV_mk _ _
        case fin =>
          intro vals w' hg hd hfresh
          have h0 : vals 0 = .agg (AV (orW a b)) := hd.1
          have h1 : vals 1 = .agg (AV (b)) := hd.2.1
          have h2 : vals 2 = .agg (AV (a)) := hd.2.2.1
          have h3 : vals 3 = .agg (AV (orW b a)) := hd.2.2.2.1
          have h4 : vals 4 = .bool false := hd.2.2.2.2.1
          have h5 : vals 5 = .bool false := hd.2.2.2.2.2.1
          have h6 : vals 6 = .agg (AV (andW a b)) := hd.2.2.2.2.2.2.1
          have h7 : vals 7 = .agg (AV (b)) := hd.2.2.2.2.2.2.2.1
          have h8 : vals 8 = .agg (AV (a)) := hd.2.2.2.2.2.2.2.2.1
          have h9 : vals 9 = .agg (AV (andW b a)) := hd.2.2.2.2.2.2.2.2.2.1
          have h10 : vals 10 = .bool false := hd.2.2.2.2.2.2.2.2.2.2.1
          have h11 : vals 11 = .bool false := hd.2.2.2.2.2.2.2.2.2.2.2.1
          have h12 : vals 12 = .bool false := hd.2.2.2.2.2.2.2.2.2.2.2.2.1
          have h13 : vals 13 = .agg (AV (notW a)) := hd.2.2.2.2.2.2.2.2.2.2.2.2.2.1
          have h14 : vals 14 = .agg (AV (notW (notW a))) := hd.2.2.2.2.2.2.2.2.2.2.2.2.2.2.1
          have h15 : vals 15 = .agg (AV (a)) := hd.2.2.2.2.2.2.2.2.2.2.2.2.2.2.2.1
          have h16 : vals 16 = .bool false := hd.2.2.2.2.2.2.2.2.2.2.2.2.2.2.2.2.1
          have h17 : vals 17 = .bool false := hd.2.2.2.2.2.2.2.2.2.2.2.2.2.2.2.2.2.1
          have h18 : vals 18 = .bool false := hd.2.2.2.2.2.2.2.2.2.2.2.2.2.2.2.2.2.2.1
          have h19 : vals 19 = .agg (AV (subW a b)) := hd.2.2.2.2.2.2.2.2.2.2.2.2.2.2.2.2.2.2.2.1
          have h20 : vals 20 = .agg (AV (a)) := hd.2.2.2.2.2.2.2.2.2.2.2.2.2.2.2.2.2.2.2.2.1
          have h21 : vals 21 = .agg (AV (b)) := hd.2.2.2.2.2.2.2.2.2.2.2.2.2.2.2.2.2.2.2.2.2.1
          have h22 : vals 22 = .agg (AV (notW b)) := hd.2.2.2.2.2.2.2.2.2.2.2.2.2.2.2.2.2.2.2.2.2.2.1
          have h23 : vals 23 = .agg (AV (andW a (notW b))) := hd.2.2.2.2.2.2.2.2.2.2.2.2.2.2.2.2.2.2.2.2.2.2.2.1
          have h24 : vals 24 = .bool false := hd.2.2.2.2.2.2.2.2.2.2.2.2.2.2.2.2.2.2.2.2.2.2.2.2.1
          have h25 : vals 25 = .bool false := hd.2.2.2.2.2.2.2.2.2.2.2.2.2.2.2.2.2.2.2.2.2.2.2.2.2.1
          clear hd
          simp only [putS, List.foldl_nil, List.foldl_cons, Act.put, List.setIfInBounds_toArray, List.set_cons_zero, List.set_cons_succ, List.drop_succ_cons, List.drop_zero, h0, h1, h2, h3, h4, h5, h6, h7, h8, h9, h10, h11, h12, h13, h14, h15, h16, h17, h18, h19, h20, h21, h22, h23, h24, h25]
          have HA := Lib.hid (block_below' hg HA.out)
          have HB := Lib.hid (block_below' hg HB.out)
          have HC := Lib.hid (block_below' hg HC.out)
          have HU := Lib.hid (block_below' hg HU.out)
          have HM := Lib.hid (block_below' hg HM.out)
          have HD := Lib.hid (block_below' hg HD.out)
          have HN := Lib.hid (block_below' hg HN.out)
          have HE := Lib.hid (HE.out.trans hg)
          clear hg h0 h1 h2 h3 h4 h5 h6 h7 h8 h9 h10 h11 h12 h13 h14 h15 h16 h17 h18 h19 h20 h21 h22 h23 h24 h25 hfresh
          go_wp2_with fail
          refine wp_region_grows 20 [IsV (.agg (AV (orW a b))), IsV (.agg (AV (notW (orW a b)))), IsV (.agg (AV (notW a))), IsV (.agg (AV (b))), IsV (.agg (AV (notW b))), IsV (.agg (AV (andW (notW a) (notW b)))), IsV (.bool false), IsV (.bool false), IsV (.agg (AV (a))), IsV (.agg (AV (b))), IsV (.agg (AV (c))), IsV (.agg (AV (orW b c))), IsV (.agg (AV (andW a (orW b c)))), IsV (.agg (AV (andW a b))), IsV (.agg (AV (a))), IsV (.agg (AV (c))), IsV (.agg (AV (andW a c))), IsV (.agg (AV (orW (andW a b) (andW a c)))), IsV (.bool false), IsV (.bool false)] []
            [[], [(0, 99)], [], [], [(3, 102)], [(2, 101), (4, 103)], [(1, 100), (5, 104)], [(6, 105)], [(7, 106)], [(7, 106)], [(7, 106)], [(7, 106), (9, 108), (10, 109)], [(7, 106), (8, 107), (11, 110)], [(7, 106)], [(7, 106)], [(7, 106)], [(7, 106), (14, 113), (15, 114)], [(7, 106), (13, 112), (16, 115)], [(7, 106), (12, 111), (17, 116)], [(7, 106), (18, 117)]] [(0, 99), (1, 100), (2, 101), (3, 102), (4, 103), (5, 104), (6, 105), (7, 106), (8, 107), (9, 108), (10, 109), (11, 110), (12, 111), (13, 112), (14, 113), (15, 114), (16, 115), (17, 116), (18, 117), (19, 118)] (by kernel_rfl) (by kernel_rfl) rfl ?stable ⟨?o0, ?o1, ?o2, ?o3, ?o4, ?o5, ?o6, ?o7, ?o8, ?o9, ?o10, ?o11, ?o12, ?o13, ?o14, ?o15, ?o16, ?o17, ?o18, ?o19, trivial⟩ ?fin
          case stable => exact ⟨IsV.stable _, IsV.stable _, IsV.stable _, IsV.stable _, IsV.stable _, IsV.stable _, IsV.stable _, IsV.stable _, IsV.stable _, IsV.stable _, IsV.stable _, IsV.stable _, IsV.stable _, IsV.stable _, IsV.stable _, IsV.stable _, IsV.stable _, IsV.stable _, IsV.stable _, IsV.stable _, trivial⟩
          case o0 =>
            intro vals w' hg hd
            clear hd
            simp only [putS, List.foldl_nil]
            exact one_load_row (by rfl) _ _ rfl _ rfl _ _ _ _ (block_below' hg HU.out) Try.underlying24 rfl (i24 _) (isV_mk _ _)
          case o1 =>
            intro vals w' hg hd
            have h0 : vals 0 = .agg (AV (orW a b)) := hd.1
            clear hd
            simp only [putS, List.foldl_nil, List.foldl_cons, Act.put, List.setIfInBounds_toArray, List.set_cons_zero, List.set_cons_succ, h0]
            clear hg h0
            go_simp
            exact (not_c _ (orW_W64 ha hb) w').mono fun e w2 ⟨he, hb⟩ => ⟨_, he, hb, isV_mk _ _⟩
          case o2 =>
            intro vals w' hg hd
            clear hd
            simp only [putS, List.foldl_nil]
            exact one_load_row (by rfl) _ _ rfl _ rfl _ _ _ _ (block_below' hg HN.out) Try.underlying24 rfl (i24 _) (isV_mk _ _)
          case o3 =>
            intro vals w' hg hd
            clear hd
            simp only [putS, List.foldl_nil]
            exact one_load_row (by rfl) _ _ rfl _ rfl _ _ _ _ (block_below' hg HB.out) Try.underlying24 rfl (i24 _) (isV_mk _ _)
          case o4 =>
            intro vals w' hg hd
            have h3 : vals 3 = .agg (AV (b)) := hd.1
            clear hd
            simp only [putS, List.foldl_nil, List.foldl_cons, Act.put, List.setIfInBounds_toArray, List.set_cons_zero, List.set_cons_succ, h3]
            clear hg h3
            go_simp
            exact (not_c b hb w').mono fun e w2 ⟨he, hb⟩ => ⟨_, he, hb, isV_mk _ _⟩
          case o5 =>
            intro vals w' hg hd
            have h2 : vals 2 = .agg (AV (notW a)) := hd.1
            have h4 : vals 4 = .agg (AV (notW b)) := hd.2.1
            clear hd
            simp only [putS, List.foldl_nil, List.foldl_cons, Act.put, List.setIfInBounds_toArray, List.set_cons_zero, List.set_cons_succ, h2, h4]
            clear hg h2 h4
            go_simp
            exact (meet_c _ _ (notW_W64 a) (notW_W64 b) w').mono fun e w2 ⟨he, hb⟩ => ⟨_, he, hb, isV_mk _ _⟩
          case o6 =>
            intro vals w' hg hd
            have h1 : vals 1 = .agg (AV (notW (orW a b))) := hd.1
            have h5 : vals 5 = .agg (AV (andW (notW a) (notW b))) := hd.2.1
            clear hd
            simp only [putS, List.foldl_nil, List.foldl_cons, Act.put, List.setIfInBounds_toArray, List.set_cons_zero, List.set_cons_succ, h1, h5]
            have heq0 := fun w => eq_AV_true E5.out w
            clear hg h1 h5
            go_simp
            exact isV_mk _ _
          case o7 =>
            intro vals w' hg hd
            have h6 : vals 6 = .bool false := hd.1
            clear hd
            simp only [putS, List.foldl_nil, List.foldl_cons, Act.put, List.setIfInBounds_toArray, List.set_cons_zero, List.set_cons_succ, h6]
            clear hg h6
            go_simp
            try go_bits
            exact isV_mk _ _
          case o8 =>
            intro vals w' hg hd
            have h7 : vals 7 = .bool false := hd.1
            clear hd
            simp only [putS, List.foldl_nil, List.foldl_cons, Act.put, List.setIfInBounds_toArray, List.set_cons_zero, List.set_cons_succ, h7]
            exact one_load_row (by rfl) _ _ rfl _ rfl _ _ _ _ (block_below' hg HA.out) Try.underlying24 rfl (i24 _) (isV_mk _ _)
          case o9 =>
            intro vals w' hg hd
            have h7 : vals 7 = .bool false := hd.1
            clear hd
            simp only [putS, List.foldl_nil, List.foldl_cons, Act.put, List.setIfInBounds_toArray, List.set_cons_zero, List.set_cons_succ, h7]
            exact one_load_row (by rfl) _ _ rfl _ rfl _ _ _ _ (block_below' hg HB.out) Try.underlying24 rfl (i24 _) (isV_mk _ _)
          case o10 =>
            intro vals w' hg hd
            have h7 : vals 7 = .bool false := hd.1
            clear hd
            simp only [putS, List.foldl_nil, List.foldl_cons, Act.put, List.setIfInBounds_toArray, List.set_cons_zero, List.set_cons_succ, h7]
            exact one_load_row (by rfl) _ _ rfl _ rfl _ _ _ _ (block_below' hg HC.out) Try.underlying24 rfl (i24 _) (isV_mk _ _)
          case o11 =>
            intro vals w' hg hd
            have h7 : vals 7 = .bool false := hd.1
            have h9 : vals 9 = .agg (AV (b)) := hd.2.1
            have h10 : vals 10 = .agg (AV (c)) := hd.2.2.1
            clear hd
            simp only [putS, List.foldl_nil, List.foldl_cons, Act.put, List.setIfInBounds_toArray, List.set_cons_zero, List.set_cons_succ, h7, h9, h10]
            clear hg h7 h9 h10
            go_simp
            exact (union_c b c hb hc w').mono fun e w2 ⟨he, hb⟩ => ⟨_, he, hb, isV_mk _ _⟩
          case o12 =>
            intro vals w' hg hd
            have h7 : vals 7 = .bool false := hd.1
            have h8 : vals 8 = .agg (AV (a)) := hd.2.1
            have h11 : vals 11 = .agg (AV (orW b c)) := hd.2.2.1
            clear hd
            simp only [putS, List.foldl_nil, List.foldl_cons, Act.put, List.setIfInBounds_toArray, List.set_cons_zero, List.set_cons_succ, h7, h8, h11]
            clear hg h7 h8 h11
            go_simp
            exact (meet_c a _ ha (orW_W64 hb hc) w').mono fun e w2 ⟨he, hb⟩ => ⟨_, he, hb, isV_mk _ _⟩
          case o13 =>
            intro vals w' hg hd
            have h7 : vals 7 = .bool false := hd.1
            clear hd
            simp only [putS, List.foldl_nil, List.foldl_cons, Act.put, List.setIfInBounds_toArray, List.set_cons_zero, List.set_cons_succ, h7]
            exact one_load_row (by rfl) _ _ rfl _ rfl _ _ _ _ (block_below' hg HM.out) Try.underlying24 rfl (i24 _) (isV_mk _ _)
          case o14 =>
            intro vals w' hg hd
            have h7 : vals 7 = .bool false := hd.1
            clear hd
            simp only [putS, List.foldl_nil, List.foldl_cons, Act.put, List.setIfInBounds_toArray, List.set_cons_zero, List.set_cons_succ, h7]
            exact one_load_row (by rfl) _ _ rfl _ rfl _ _ _ _ (block_below' hg HA.out) Try.underlying24 rfl (i24 _) (isV_mk _ _)
          case o15 =>
            intro vals w' hg hd
            have h7 : vals 7 = .bool false := hd.1
            clear hd
            simp only [putS, List.foldl_nil, List.foldl_cons, Act.put, List.setIfInBounds_toArray, List.set_cons_zero, List.set_cons_succ, h7]
            exact one_load_row (by rfl) _ _ rfl _ rfl _ _ _ _ (block_below' hg HC.out) Try.underlying24 rfl (i24 _) (isV_mk _ _)
          case o16 =>
            intro vals w' hg hd
            have h7 : vals 7 = .bool false := hd.1
            have h14 : vals 14 = .agg (AV (a)) := hd.2.1
            have h15 : vals 15 = .agg (AV (c)) := hd.2.2.1
            clear hd
            simp only [putS, List.foldl_nil, List.foldl_cons, Act.put, List.setIfInBounds_toArray, List.set_cons_zero, List.set_cons_succ, h7, h14, h15]
            clear hg h7 h14 h15
            go_simp
            exact (meet_c a c ha hc w').mono fun e w2 ⟨he, hb⟩ => ⟨_, he, hb, isV_mk _ _⟩
          case o17 =>
            intro vals w' hg hd
            have h7 : vals 7 = .bool false := hd.1
            have h13 : vals 13 = .agg (AV (andW a b)) := hd.2.1
            have h16 : vals 16 = .agg (AV (andW a c)) := hd.2.2.1
            clear hd
            simp only [putS, List.foldl_nil, List.foldl_cons, Act.put, List.setIfInBounds_toArray, List.set_cons_zero, List.set_cons_succ, h7, h13, h16]
            clear hg h7 h13 h16
            go_simp
            exact (union_c _ _ (andW_W64 ha b) (andW_W64 ha c) w').mono fun e w2 ⟨he, hb⟩ => ⟨_, he, hb, isV_mk _ _⟩
          case o18 =>
            intro vals w' hg hd
            have h7 : vals 7 = .bool false := hd.1
            have h12 : vals 12 = .agg (AV (andW a (orW b c))) := hd.2.1
            have h17 : vals 17 = .agg (AV (orW (andW a b) (andW a c))) := hd.2.2.1
            clear hd
            simp only [putS, List.foldl_nil, List.foldl_cons, Act.put, List.setIfInBounds_toArray, List.set_cons_zero, List.set_cons_succ, h7, h12, h17]
            have heq0 := fun w => eq_AV_true E6.out w
            clear hg h7 h12 h17
            go_simp
            exact isV_mk _ _
          case o19 =>
            intro vals w' hg hd
            have h7 : vals 7 = .bool false := hd.1
            have h18 : vals 18 = .bool false := hd.2.1
            clear hd
            simp only [putS, List.foldl_nil, List.foldl_cons, Act.put, List.setIfInBounds_toArray, List.set_cons_zero, List.set_cons_succ, h7, h18]
            clear hg h7 h18
            go_simp
            try go_bits
            exact isV_mk _ _
          case fin =>
            intro vals w' hg hd hfresh
            have h0 : vals 0 = .agg (AV (orW a b)) := hd.1
            have h1 : vals 1 = .agg (AV (notW (orW a b))) := hd.2.1
            have h2 : vals 2 = .agg (AV (notW a)) := hd.2.2.1
            have h3 : vals 3 = .agg (AV (b)) := hd.2.2.2.1
            have h4 : vals 4 = .agg (AV (notW b)) := hd.2.2.2.2.1
            have h5 : vals 5 = .agg (AV (andW (notW a) (notW b))) := hd.2.2.2.2.2.1
            have h6 : vals 6 = .bool false := hd.2.2.2.2.2.2.1
            have h7 : vals 7 = .bool false := hd.2.2.2.2.2.2.2.1
            have h8 : vals 8 = .agg (AV (a)) := hd.2.2.2.2.2.2.2.2.1
            have h9 : vals 9 = .agg (AV (b)) := hd.2.2.2.2.2.2.2.2.2.1
            have h10 : vals 10 = .agg (AV (c)) := hd.2.2.2.2.2.2.2.2.2.2.1
            have h11 : vals 11 = .agg (AV (orW b c)) := hd.2.2.2.2.2.2.2.2.2.2.2.1
            have h12 : vals 12 = .agg (AV (andW a (orW b c))) := hd.2.2.2.2.2.2.2.2.2.2.2.2.1
            have h13 : vals 13 = .agg (AV (andW a b)) := hd.2.2.2.2.2.2.2.2.2.2.2.2.2.1
            have h14 : vals 14 = .agg (AV (a)) := hd.2.2.2.2.2.2.2.2.2.2.2.2.2.2.1
            have h15 : vals 15 = .agg (AV (c)) := hd.2.2.2.2.2.2.2.2.2.2.2.2.2.2.2.1
            have h16 : vals 16 = .agg (AV (andW a c)) := hd.2.2.2.2.2.2.2.2.2.2.2.2.2.2.2.2.1
            have h17 : vals 17 = .agg (AV (orW (andW a b) (andW a c))) := hd.2.2.2.2.2.2.2.2.2.2.2.2.2.2.2.2.2.1
            have h18 : vals 18 = .bool false := hd.2.2.2.2.2.2.2.2.2.2.2.2.2.2.2.2.2.2.1
            have h19 : vals 19 = .bool false := hd.2.2.2.2.2.2.2.2.2.2.2.2.2.2.2.2.2.2.2.1
            clear hd
            simp only [putS, List.foldl_nil, List.foldl_cons, Act.put, List.setIfInBounds_toArray, List.set_cons_zero, List.set_cons_succ, List.drop_succ_cons, List.drop_zero, h0, h1, h2, h3, h4, h5, h6, h7, h8, h9, h10, h11, h12, h13, h14, h15, h16, h17, h18, h19]
            have HA := Lib.hid (block_below' hg HA.out)
            have HB := Lib.hid (block_below' hg HB.out)
            have HC := Lib.hid (block_below' hg HC.out)
            have HU := Lib.hid (block_below' hg HU.out)
            have HM := Lib.hid (block_below' hg HM.out)
            have HD := Lib.hid (block_below' hg HD.out)
            have HN := Lib.hid (block_below' hg HN.out)
            have HE := Lib.hid (HE.out.trans hg)
            clear hg h0 h1 h2 h3 h4 h5 h6 h7 h8 h9 h10 h11 h12 h13 h14 h15 h16 h17 h18 h19 hfresh
            go_wp2_with fail
            refine wp_region_grows 23 [IsV (.bool true), IsV (.bool true), IsV (.agg (AV (orW a b))), IsV (.int .i64 (nu : Nat)), IsV (.agg (AV (andW a b))), IsV (.int .i64 (nm : Nat)), IsV (.int .i64 (nu + nm : Nat)), IsV (.agg (AV (a))), IsV (.int .i64 (na : Nat)), IsV (.agg (AV (b))), IsV (.int .i64 (nb : Nat)), IsV (.int .i64 (na + nb : Nat)), IsV (.bool true), IsV (.bool true), IsV (.bool true), IsV (.agg (AV (a))), IsV (.int .i64 (na : Nat)), IsV (.agg (AV (notW a))), IsV (.int .i64 (nn : Nat)), IsV (.int .i64 (na + nn : Nat)), IsV (.bool true), IsV (.bool true), IsV (.bool true)] []
              [[], [(0, 119)], [(1, 120)], [(1, 120), (2, 121)], [(1, 120)], [(1, 120), (4, 123)], [(1, 120), (3, 122), (5, 124)], [(1, 120)], [(1, 120), (7, 126)], [(1, 120)], [(1, 120), (9, 128)], [(1, 120), (8, 127), (10, 129)], [(1, 120), (6, 125), (11, 130)], [(1, 120), (12, 131)], [(13, 132)], [(14, 133)], [(14, 133), (15, 134)], [(14, 133)], [(14, 133), (17, 136)], [(14, 133), (16, 135), (18, 137)], [(14, 133), (19, 138)], [(14, 133), (20, 139)], [(21, 140)]] [(0, 119), (1, 120), (2, 121), (3, 122), (4, 123), (5, 124), (6, 125), (7, 126), (8, 127), (9, 128), (10, 129), (11, 130), (12, 131), (13, 132), (14, 133), (15, 134), (16, 135), (17, 136), (18, 137), (19, 138), (20, 139), (21, 140), (22, 4)] (by kernel_rfl) (by kernel_rfl) rfl ?stable ⟨?o0, ?o1, ?o2, ?o3, ?o4, ?o5, ?o6, ?o7, ?o8, ?o9, ?o10, ?o11, ?o12, ?o13, ?o14, ?o15, ?o16, ?o17, ?o18, ?o19, ?o20, ?o21, ?o22, trivial⟩ ?fin
            case stable => exact ⟨IsV.stable _, IsV.stable _, IsV.stable _, IsV.stable _, IsV.stable _, IsV.stable _, IsV.stable _, IsV.stable _, IsV.stable _, IsV.stable _, IsV.stable _, IsV.stable _, IsV.stable _, IsV.stable _, IsV.stable _, IsV.stable _, IsV.stable _, IsV.stable _, IsV.stable _, IsV.stable _, IsV.stable _, IsV.stable _, IsV.stable _, trivial⟩
            case o0 =>
              intro vals w' hg hd
              clear hd
              simp only [putS, List.foldl_nil]
              clear hg
              go_simp
              exact (alive_c w').mono fun e w2 ⟨he, hb⟩ => ⟨_, he, hb, isV_mk _ _⟩
            case o1 =>
              intro vals w' hg hd
              have h0 : vals 0 = .bool true := hd.1
              clear hd
              simp only [putS, List.foldl_nil, List.foldl_cons, Act.put, List.setIfInBounds_toArray, List.set_cons_zero, List.set_cons_succ, h0]
              clear hg h0
              go_simp
              try go_bits
              exact isV_mk _ _
            case o2 =>
              intro vals w' hg hd
              have h1 : vals 1 = .bool true := hd.1
              clear hd
              simp only [putS, List.foldl_nil, List.foldl_cons, Act.put, List.setIfInBounds_toArray, List.set_cons_zero, List.set_cons_succ, h1]
              exact one_load_row (by rfl) _ _ rfl _ rfl _ _ _ _ (block_below' hg HU.out) Try.underlying24 rfl (i24 _) (isV_mk _ _)
            case o3 =>
              intro vals w' hg hd
              have h1 : vals 1 = .bool true := hd.1
              have h2 : vals 2 = .agg (AV (orW a b)) := hd.2.1
              clear hd
              simp only [putS, List.foldl_nil, List.foldl_cons, Act.put, List.setIfInBounds_toArray, List.set_cons_zero, List.set_cons_succ, h1, h2]
              clear hg h1 h2
              go_simp
              exact (len_c (orW a b) (orW_W64 ha hb) w').mono fun e w2 ⟨he, hb⟩ => ⟨_, he, hb, (by unfold IsV; rw [NU.out])⟩
            case o4 =>
              intro vals w' hg hd
              have h1 : vals 1 = .bool true := hd.1
              clear hd
              simp only [putS, List.foldl_nil, List.foldl_cons, Act.put, List.setIfInBounds_toArray, List.set_cons_zero, List.set_cons_succ, h1]
              exact one_load_row (by rfl) _ _ rfl _ rfl _ _ _ _ (block_below' hg HM.out) Try.underlying24 rfl (i24 _) (isV_mk _ _)
            case o5 =>
              intro vals w' hg hd
              have h1 : vals 1 = .bool true := hd.1
              have h4 : vals 4 = .agg (AV (andW a b)) := hd.2.1
              clear hd
              simp only [putS, List.foldl_nil, List.foldl_cons, Act.put, List.setIfInBounds_toArray, List.set_cons_zero, List.set_cons_succ, h1, h4]
              clear hg h1 h4
              go_simp
              exact (len_c (andW a b) (andW_W64 ha b) w').mono fun e w2 ⟨he, hb⟩ => ⟨_, he, hb, (by unfold IsV; rw [NM.out])⟩
            case o6 =>
              intro vals w' hg hd
              have h1 : vals 1 = .bool true := hd.1
              have h3 : vals 3 = .int .i64 (nu : Nat) := hd.2.1
              have h5 : vals 5 = .int .i64 (nm : Nat) := hd.2.2.1
              clear hd
              simp only [putS, List.foldl_nil, List.foldl_cons, Act.put, List.setIfInBounds_toArray, List.set_cons_zero, List.set_cons_succ, h1, h3, h5]
              clear hg h1 h3 h5
              go_simp
              try go_bits
              exact isV_mk _ _
            case o7 =>
              intro vals w' hg hd
              have h1 : vals 1 = .bool true := hd.1
              clear hd
              simp only [putS, List.foldl_nil, List.foldl_cons, Act.put, List.setIfInBounds_toArray, List.set_cons_zero, List.set_cons_succ, h1]
              exact one_load_row (by rfl) _ _ rfl _ rfl _ _ _ _ (block_below' hg HA.out) Try.underlying24 rfl (i24 _) (isV_mk _ _)
            case o8 =>
              intro vals w' hg hd
              have h1 : vals 1 = .bool true := hd.1
              have h7 : vals 7 = .agg (AV (a)) := hd.2.1
              clear hd
              simp only [putS, List.foldl_nil, List.foldl_cons, Act.put, List.setIfInBounds_toArray, List.set_cons_zero, List.set_cons_succ, h1, h7]
              clear hg h1 h7
              go_simp
              exact (len_c (a) (ha) w').mono fun e w2 ⟨he, hb⟩ => ⟨_, he, hb, (by unfold IsV; rw [NA.out])⟩
            case o9 =>
              intro vals w' hg hd
              have h1 : vals 1 = .bool true := hd.1
              clear hd
              simp only [putS, List.foldl_nil, List.foldl_cons, Act.put, List.setIfInBounds_toArray, List.set_cons_zero, List.set_cons_succ, h1]
              exact one_load_row (by rfl) _ _ rfl _ rfl _ _ _ _ (block_below' hg HB.out) Try.underlying24 rfl (i24 _) (isV_mk _ _)
            case o10 =>
              intro vals w' hg hd
              have h1 : vals 1 = .bool true := hd.1
              have h9 : vals 9 = .agg (AV (b)) := hd.2.1
              clear hd
              simp only [putS, List.foldl_nil, List.foldl_cons, Act.put, List.setIfInBounds_toArray, List.set_cons_zero, List.set_cons_succ, h1, h9]
              clear hg h1 h9
              go_simp
              exact (len_c (b) (hb) w').mono fun e w2 ⟨he, hb⟩ => ⟨_, he, hb, (by unfold IsV; rw [NB.out])⟩
            case o11 =>
              intro vals w' hg hd
              have h1 : vals 1 = .bool true := hd.1
              have h8 : vals 8 = .int .i64 (na : Nat) := hd.2.1
              have h10 : vals 10 = .int .i64 (nb : Nat) := hd.2.2.1
              clear hd
              simp only [putS, List.foldl_nil, List.foldl_cons, Act.put, List.setIfInBounds_toArray, List.set_cons_zero, List.set_cons_succ, h1, h8, h10]
              clear hg h1 h8 h10
              go_simp
              try go_bits
              exact isV_mk _ _
            case o12 =>
              intro vals w' hg hd
              have h1 : vals 1 = .bool true := hd.1
              have h6 : vals 6 = .int .i64 (nu + nm : Nat) := hd.2.1
              have h11 : vals 11 = .int .i64 (na + nb : Nat) := hd.2.2.1
              clear hd
              simp only [putS, List.foldl_nil, List.foldl_cons, Act.put, List.setIfInBounds_toArray, List.set_cons_zero, List.set_cons_succ, h1, h6, h11]
              have hs1 := NS1.out
              clear hg h1 h6 h11
              go_simp
              exact congrArg Value.bool (by first | (simp; omega) | simp)
            case o13 =>
              intro vals w' hg hd
              have h1 : vals 1 = .bool true := hd.1
              have h12 : vals 12 = .bool true := hd.2.1
              clear hd
              simp only [putS, List.foldl_nil, List.foldl_cons, Act.put, List.setIfInBounds_toArray, List.set_cons_zero, List.set_cons_succ, h1, h12]
              clear hg h1 h12
              go_simp
              try go_bits
              exact isV_mk _ _
            case o14 =>
              intro vals w' hg hd
              have h13 : vals 13 = .bool true := hd.1
              clear hd
              simp only [putS, List.foldl_nil, List.foldl_cons, Act.put, List.setIfInBounds_toArray, List.set_cons_zero, List.set_cons_succ, h13]
              clear hg h13
              go_simp
              try go_bits
              exact isV_mk _ _
            case o15 =>
              intro vals w' hg hd
              have h14 : vals 14 = .bool true := hd.1
              clear hd
              simp only [putS, List.foldl_nil, List.foldl_cons, Act.put, List.setIfInBounds_toArray, List.set_cons_zero, List.set_cons_succ, h14]
              exact one_load_row (by rfl) _ _ rfl _ rfl _ _ _ _ (block_below' hg HA.out) Try.underlying24 rfl (i24 _) (isV_mk _ _)
            case o16 =>
              intro vals w' hg hd
              have h14 : vals 14 = .bool true := hd.1
              have h15 : vals 15 = .agg (AV (a)) := hd.2.1
              clear hd
              simp only [putS, List.foldl_nil, List.foldl_cons, Act.put, List.setIfInBounds_toArray, List.set_cons_zero, List.set_cons_succ, h14, h15]
              clear hg h14 h15
              go_simp
              exact (len_c (a) (ha) w').mono fun e w2 ⟨he, hb⟩ => ⟨_, he, hb, (by unfold IsV; rw [NA.out])⟩
            case o17 =>
              intro vals w' hg hd
              have h14 : vals 14 = .bool true := hd.1
              clear hd
              simp only [putS, List.foldl_nil, List.foldl_cons, Act.put, List.setIfInBounds_toArray, List.set_cons_zero, List.set_cons_succ, h14]
              exact one_load_row (by rfl) _ _ rfl _ rfl _ _ _ _ (block_below' hg HN.out) Try.underlying24 rfl (i24 _) (isV_mk _ _)
            case o18 =>
              intro vals w' hg hd
              have h14 : vals 14 = .bool true := hd.1
              have h17 : vals 17 = .agg (AV (notW a)) := hd.2.1
              clear hd
              simp only [putS, List.foldl_nil, List.foldl_cons, Act.put, List.setIfInBounds_toArray, List.set_cons_zero, List.set_cons_succ, h14, h17]
              clear hg h14 h17
              go_simp
              exact (len_c (notW a) (notW_W64 a) w').mono fun e w2 ⟨he, hb⟩ => ⟨_, he, hb, (by unfold IsV; rw [NN.out])⟩
            case o19 =>
              intro vals w' hg hd
              have h14 : vals 14 = .bool true := hd.1
              have h16 : vals 16 = .int .i64 (na : Nat) := hd.2.1
              have h18 : vals 18 = .int .i64 (nn : Nat) := hd.2.2.1
              clear hd
              simp only [putS, List.foldl_nil, List.foldl_cons, Act.put, List.setIfInBounds_toArray, List.set_cons_zero, List.set_cons_succ, h14, h16, h18]
              clear hg h14 h16 h18
              go_simp
              try go_bits
              exact isV_mk _ _
            case o20 =>
              intro vals w' hg hd
              have h14 : vals 14 = .bool true := hd.1
              have h19 : vals 19 = .int .i64 (na + nn : Nat) := hd.2.1
              clear hd
              simp only [putS, List.foldl_nil, List.foldl_cons, Act.put, List.setIfInBounds_toArray, List.set_cons_zero, List.set_cons_succ, h14, h19]
              have hs1 := NS2.out
              clear hg h14 h19
              go_simp
              exact congrArg Value.bool (by first | (simp; omega) | simp)
            case o21 =>
              intro vals w' hg hd
              have h14 : vals 14 = .bool true := hd.1
              have h20 : vals 20 = .bool true := hd.2.1
              clear hd
              simp only [putS, List.foldl_nil, List.foldl_cons, Act.put, List.setIfInBounds_toArray, List.set_cons_zero, List.set_cons_succ, h14, h20]
              clear hg h14 h20
              go_simp
              try go_bits
              exact isV_mk _ _
            case o22 =>
              intro vals w' hg hd
              have h21 : vals 21 = .bool true := hd.1
              clear hd
              simp only [putS, List.foldl_nil, List.foldl_cons, Act.put, List.setIfInBounds_toArray, List.set_cons_zero, List.set_cons_succ, h21]
              clear hg h21
              go_simp
              try go_bits
              exact isV_mk _ _
            case fin =>
              intro vals w' hg hd hfresh
              have h0 : vals 0 = .bool true := hd.1
              have h1 : vals 1 = .bool true := hd.2.1
              have h2 : vals 2 = .agg (AV (orW a b)) := hd.2.2.1
              have h3 : vals 3 = .int .i64 (nu : Nat) := hd.2.2.2.1
              have h4 : vals 4 = .agg (AV (andW a b)) := hd.2.2.2.2.1
              have h5 : vals 5 = .int .i64 (nm : Nat) := hd.2.2.2.2.2.1
              have h6 : vals 6 = .int .i64 (nu + nm : Nat) := hd.2.2.2.2.2.2.1
              have h7 : vals 7 = .agg (AV (a)) := hd.2.2.2.2.2.2.2.1
              have h8 : vals 8 = .int .i64 (na : Nat) := hd.2.2.2.2.2.2.2.2.1
              have h9 : vals 9 = .agg (AV (b)) := hd.2.2.2.2.2.2.2.2.2.1
              have h10 : vals 10 = .int .i64 (nb : Nat) := hd.2.2.2.2.2.2.2.2.2.2.1
              have h11 : vals 11 = .int .i64 (na + nb : Nat) := hd.2.2.2.2.2.2.2.2.2.2.2.1
              have h12 : vals 12 = .bool true := hd.2.2.2.2.2.2.2.2.2.2.2.2.1
              have h13 : vals 13 = .bool true := hd.2.2.2.2.2.2.2.2.2.2.2.2.2.1
              have h14 : vals 14 = .bool true := hd.2.2.2.2.2.2.2.2.2.2.2.2.2.2.1
              have h15 : vals 15 = .agg (AV (a)) := hd.2.2.2.2.2.2.2.2.2.2.2.2.2.2.2.1
              have h16 : vals 16 = .int .i64 (na : Nat) := hd.2.2.2.2.2.2.2.2.2.2.2.2.2.2.2.2.1
              have h17 : vals 17 = .agg (AV (notW a)) := hd.2.2.2.2.2.2.2.2.2.2.2.2.2.2.2.2.2.1
              have h18 : vals 18 = .int .i64 (nn : Nat) := hd.2.2.2.2.2.2.2.2.2.2.2.2.2.2.2.2.2.2.1
              have h19 : vals 19 = .int .i64 (na + nn : Nat) := hd.2.2.2.2.2.2.2.2.2.2.2.2.2.2.2.2.2.2.2.1
              have h20 : vals 20 = .bool true := hd.2.2.2.2.2.2.2.2.2.2.2.2.2.2.2.2.2.2.2.2.1
              have h21 : vals 21 = .bool true := hd.2.2.2.2.2.2.2.2.2.2.2.2.2.2.2.2.2.2.2.2.2.1
              have h22 : vals 22 = .bool true := hd.2.2.2.2.2.2.2.2.2.2.2.2.2.2.2.2.2.2.2.2.2.2.1
              clear hd
              simp only [putS, List.foldl_nil, List.foldl_cons, Act.put, List.setIfInBounds_toArray, List.set_cons_zero, List.set_cons_succ, List.drop_succ_cons, List.drop_zero, h0, h1, h2, h3, h4, h5, h6, h7, h8, h9, h10, h11, h12, h13, h14, h15, h16, h17, h18, h19, h20, h21, h22]
              have HEnd := Lib.hid (HE.out.trans hg)
              clear hg h0 h1 h2 h3 h4 h5 h6 h7 h8 h9 h10 h11 h12 h13 h14 h15 h16 h17 h18 h19 h20 h21 h22 hfresh
              go_wp2
              go_ret
              exact ⟨rfl, HEnd.out⟩
set_option maxHeartbeats 16000000
theorem algebra_tf (a b c : Nat → Nat) (ha : W64 a) (hb : W64 b) (hc : W64 c) (x : Nat) (hx : x < 256) (w : World) (hp : bit a x = true) (hq : bit b x = false) :
    Calls Try.prog 8 #[.agg (ABC a b c), .int .u8 x] w fun e w' => e = .returned (.bool true) ∧ Below w.heap.size w w' := by
  have KU : Hid (bit (orW a b) x = (true || false)) := Lib.hid (by rw [bit_orW, hp, hq])
  have KM : Hid (bit (andW a b) x = (true && false)) := Lib.hid (by rw [bit_andW, hp, hq])
  have KD : Hid (bit (subW a b) x = (true && !false)) := Lib.hid (by rw [bit_subW hb, hp, hq])
  have KN : Hid (bit (notW a) x = !true) := Lib.hid (by rw [bit_notW ha, hp])
  have HP := Lib.hid hp
  have HQ := Lib.hid hq
  clear hp hq
  have E1 : Hid (eqS (orW a b) (orW b a) = true) := Lib.hid (eqS_of (orW_W64 ha hb) (orW_W64 hb ha) fun j _ => by rw [bit_orW, bit_orW, Bool.or_comm])
  have E2 : Hid (eqS (andW a b) (andW b a) = true) := Lib.hid (eqS_of (andW_W64 ha b) (andW_W64 hb a) fun j _ => by rw [bit_andW, bit_andW, Bool.and_comm])
  have E3 : Hid (eqS (notW (notW a)) a = true) := Lib.hid (eqS_of (notW_W64 _) ha fun j _ => by rw [bit_notW (notW_W64 a), bit_notW ha, Bool.not_not])
  have E4 : Hid (eqS (subW a b) (andW a (notW b)) = true) := Lib.hid (eqS_of (subW_W64 ha b) (andW_W64 ha _) fun j _ => by rw [bit_subW hb, bit_andW, bit_notW hb])
  have E5 : Hid (eqS (notW (orW a b)) (andW (notW a) (notW b)) = true) := Lib.hid (eqS_of (notW_W64 _) (andW_W64 (notW_W64 a) _) fun j _ => by rw [bit_notW (orW_W64 ha hb), bit_andW, bit_notW ha, bit_notW hb, bit_orW, Bool.not_or])
  have E6 : Hid (eqS (andW a (orW b c)) (orW (andW a b) (andW a c)) = true) := Lib.hid (eqS_of (andW_W64 ha _) (orW_W64 (andW_W64 ha b) (andW_W64 ha c)) fun j _ => by rw [bit_andW, bit_orW, bit_orW, bit_andW, bit_andW, Bool.and_or_distrib_left])
  obtain ⟨nu, hnu⟩ : ∃ n, n = cnt (bit (orW a b)) 256 := ⟨_, rfl⟩
  obtain ⟨nm, hnm⟩ : ∃ n, n = cnt (bit (andW a b)) 256 := ⟨_, rfl⟩
  obtain ⟨na, hna⟩ : ∃ n, n = cnt (bit a) 256 := ⟨_, rfl⟩
  obtain ⟨nb, hnb⟩ : ∃ n, n = cnt (bit b) 256 := ⟨_, rfl⟩
  obtain ⟨nn, hnn⟩ : ∃ n, n = cnt (bit (notW a)) 256 := ⟨_, rfl⟩
  have NS1 : Hid (nu + nm = na + nb) := Lib.hid (by
    rw [hnu, hnm, hna, hnb, cnt_congr 256 (fun j _ => bit_orW a b j), cnt_congr 256 (fun j _ => bit_andW a b j)]; exact cnt_or_and _ _ _)
  have NS2 : Hid (na + nn = 256) := Lib.hid (by rw [hna, hnn, cnt_congr 256 (fun j _ => bit_notW ha j)]; exact cnt_not _ _)
  have u1 : nu ≤ 256 := hnu ▸ cnt_le _ _
  have u2 : nm ≤ 256 := hnm ▸ cnt_le _ _
  have u3 : na ≤ 256 := hna ▸ cnt_le _ _
  have u4 : nb ≤ 256 := hnb ▸ cnt_le _ _
  have u5 : nn ≤ 256 := hnn ▸ cnt_le _ _
  have NU := Lib.hid hnu; have NM := Lib.hid hnm; have NA := Lib.hid hna; have NB := Lib.hid hnb; have NN := Lib.hid hnn
  clear hnu hnm hna hnb hnn
  simp only [Bool.or_false, Bool.or_true, Bool.and_false, Bool.and_true, Bool.not_true, Bool.not_false] at KU KM KD KN
  go_enter Try.func8, Try.ntmps8
  go_wp2_with fail
  obtain ⟨B0, hB0⟩ : ∃ B0, B0 = w.heap.size := ⟨_, rfl⟩
  have H0 := Lib.hid (heap_at w (.cells (ABC a b c) 45) B0 hB0)
  have HE : Hid (Grew w (w.alloc (.cells (ABC a b c) 45))) := Lib.hid (grew_alloc _ _)
  generalize w.alloc (.cells (ABC a b c) 45) = w1 at H0 HE ⊢
  rw [← hB0]
  clear hB0
  refine wp_region_vars [some (.pointer (some ⟨B0, 0, none⟩)), some (.agg (AV a)), some (.pointer (some ⟨B0, 4, none⟩)), some (.agg (AV b)), some (.pointer (some ⟨B0, 8, none⟩)), some (.agg (AV c)), none, none, none, none, none, none]
    [⟨6, 9, 1, 5, 15, (AV fun _ => 0), (AV a), 24⟩, ⟨7, 10, 3, 6, 17, (AV fun _ => 0), (AV b), 24⟩, ⟨8, 11, 5, 7, 19, (AV fun _ => 0), (AV c), 24⟩] [(6, 9), (7, 10), (8, 11)] [[], [(0, 14)], [], [(2, 16)], [], [(4, 18)], [], [], [], [(1, 15), (6, 5)], [(3, 17), (7, 6)], [(5, 19), (8, 7)]] [(0, 14), (1, 15), (2, 16), (3, 17), (4, 18), (5, 19), (6, 5), (7, 6), (8, 7)] [true, true, true, true, true, true, false, false, false, false, false, false] (by kernel_rfl) (by kernel_rfl) rfl rfl ?vars ⟨?o0, ?o1, ?o2, ?o3, ?o4, ?o5, trivial⟩ ?fin
  case vars => exact ⟨⟨⟨_, rfl, rfl, rfl, rfl⟩, ⟨_, rfl, rfl, rfl, rfl⟩, ⟨_, rfl, rfl⟩, rfl, by simp, by simp, z24, i24 _, by rw [AV_size, AV_size], AV_one _, rfl, rfl⟩, ⟨⟨_, rfl, rfl, rfl, rfl⟩, ⟨_, rfl, rfl, rfl, rfl⟩, ⟨_, rfl, rfl⟩, rfl, by simp, by simp, z24, i24 _, by rw [AV_size, AV_size], AV_one _, rfl, rfl⟩, ⟨⟨_, rfl, rfl, rfl, rfl⟩, ⟨_, rfl, rfl, rfl, rfl⟩, ⟨_, rfl, rfl⟩, rfl, by simp, by simp, z24, i24 _, by rw [AV_size, AV_size], AV_one _, rfl, rfl⟩, trivial⟩
  case o0 =>
    intro vals w' hg hd
    clear hd
    simp only [putS, List.foldl_nil]
    clear hg
    go_simp
    try go_bits
    exact isV_mk _ _
  case o1 =>
    intro vals w' hg hd
    have h0 : vals 0 = .pointer (some ⟨B0, 0, none⟩) := hd.1
    clear hd
    simp only [putS, List.foldl_nil, List.foldl_cons, Act.put, List.setIfInBounds_toArray, List.set_cons_zero, List.set_cons_succ, h0]
    exact one_load_mid (by rfl) 24 _ rfl B0 0 rfl (AV a).toList _ (fun j v hv => abc_at a b c (block_below' hg H0.out) 0 _ rfl j v hv) Try.underlying24 rfl (by rw [Array.length_toList]; exact i24 _) (by rw [Array.toArray_toList]; exact isV_mk _ _)
  case o2 =>
    intro vals w' hg hd
    clear hd
    simp only [putS, List.foldl_nil]
    clear hg
    go_simp
    try go_bits
    exact isV_mk _ _
  case o3 =>
    intro vals w' hg hd
    have h2 : vals 2 = .pointer (some ⟨B0, 4, none⟩) := hd.1
    clear hd
    simp only [putS, List.foldl_nil, List.foldl_cons, Act.put, List.setIfInBounds_toArray, List.set_cons_zero, List.set_cons_succ, h2]
    exact one_load_mid (by rfl) 24 _ rfl B0 4 rfl (AV b).toList _ (fun j v hv => abc_at a b c (block_below' hg H0.out) 1 _ rfl j v hv) Try.underlying24 rfl (by rw [Array.length_toList]; exact i24 _) (by rw [Array.toArray_toList]; exact isV_mk _ _)
  case o4 =>
    intro vals w' hg hd
    clear hd
    simp only [putS, List.foldl_nil]
    clear hg
    go_simp
    try go_bits
    exact isV_mk _ _
  case o5 =>
    intro vals w' hg hd
    have h4 : vals 4 = .pointer (some ⟨B0, 8, none⟩) := hd.1
    clear hd
    simp only [putS, List.foldl_nil, List.foldl_cons, Act.put, List.setIfInBounds_toArray, List.set_cons_zero, List.set_cons_succ, h4]
    exact one_load_mid (by rfl) 24 _ rfl B0 8 rfl (AV c).toList _ (fun j v hv => abc_at a b c (block_below' hg H0.out) 2 _ rfl j v hv) Try.underlying24 rfl (by rw [Array.length_toList]; exact i24 _) (by rw [Array.toArray_toList]; exact isV_mk _ _)
  case fin =>
    intro vals w' hg hd hvs hdist
    have h0 : vals 0 = .pointer (some ⟨B0, 0, none⟩) := hd.1
    have h1 : vals 1 = .agg (AV a) := hd.2.1
    have h2 : vals 2 = .pointer (some ⟨B0, 4, none⟩) := hd.2.2.1
    have h3 : vals 3 = .agg (AV b) := hd.2.2.2.1
    have h4 : vals 4 = .pointer (some ⟨B0, 8, none⟩) := hd.2.2.2.2.1
    have h5 : vals 5 = .agg (AV c) := hd.2.2.2.2.2.1
    clear hd
    obtain ⟨⟨b6, h6, hn6, hb6⟩, ⟨b7, h7, hn7, hb7⟩, ⟨b8, h8, hn8, hb8⟩, _⟩ := hvs
    simp only [putS, List.foldl_nil, List.foldl_cons, Act.put, List.setIfInBounds_toArray, List.set_cons_zero, List.set_cons_succ, h0, h1, h2, h3, h4, h5, h6, h7, h8]
    have HA := Lib.hid hb6; have HB := Lib.hid hb7; have HC := Lib.hid hb8
    have HE := Lib.hid (HE.out.trans hg)
    clear hg h0 h1 h2 h3 h4 h5 h6 h7 h8 hdist hb6 hb7 hb8 hn6 hn7 hn8 H0
    go_wp2_with fail
    refine wp_region_grows 8 [IsV (.agg (AV a)), IsV (.int .u8 x), IsV (.bool true), IsV (.agg (AV b)), IsV (.int .u8 x), IsV (.bool false), IsV (.bool true), IsV (.bool false)] []
      [[], [], [(0, 20), (1, 21)], [], [], [(3, 23), (4, 24)], [(2, 22)], [(5, 25)]] [(0, 20), (1, 21), (2, 22), (3, 23), (4, 24), (5, 25), (6, 8), (7, 9)] (by kernel_rfl) (by kernel_rfl) rfl ?stable ⟨?o0, ?o1, ?o2, ?o3, ?o4, ?o5, ?o6, ?o7, trivial⟩ ?fin
    case stable => exact ⟨IsV.stable _, IsV.stable _, IsV.stable _, IsV.stable _, IsV.stable _, IsV.stable _, IsV.stable _, IsV.stable _, trivial⟩
    case o0 =>
      intro vals w' hg hd
      clear hd
      simp only [putS, List.foldl_nil]
      exact one_load_row (by rfl) _ _ rfl _ rfl _ _ _ _ (block_below' hg HA.out) Try.underlying24 rfl (i24 _) (isV_mk _ _)
    case o1 =>
      intro vals w' hg hd
      clear hd
      simp only [putS, List.foldl_nil]
      clear hg
      go_simp
      try go_bits
      exact isV_mk _ _
    case o2 =>
      intro vals w' hg hd
      have h0 : vals 0 = .agg (AV a) := hd.1
      have h1 : vals 1 = .int .u8 x := hd.2.1
      clear hd
      simp only [putS, List.foldl_nil, List.foldl_cons, Act.put, List.setIfInBounds_toArray, List.set_cons_zero, List.set_cons_succ, h0, h1]
      clear hg h0 h1
      go_simp
      exact (has_c a ha x hx w').mono fun e w2 ⟨he, hb⟩ => ⟨_, he, hb, congrArg Value.bool HP.out⟩
    case o3 =>
      intro vals w' hg hd
      clear hd
      simp only [putS, List.foldl_nil]
      exact one_load_row (by rfl) _ _ rfl _ rfl _ _ _ _ (block_below' hg HB.out) Try.underlying24 rfl (i24 _) (isV_mk _ _)
    case o4 =>
      intro vals w' hg hd
      clear hd
      simp only [putS, List.foldl_nil]
      clear hg
      go_simp
      try go_bits
      exact isV_mk _ _
    case o5 =>
      intro vals w' hg hd
      have h3 : vals 3 = .agg (AV b) := hd.1
      have h4 : vals 4 = .int .u8 x := hd.2.1
      clear hd
      simp only [putS, List.foldl_nil, List.foldl_cons, Act.put, List.setIfInBounds_toArray, List.set_cons_zero, List.set_cons_succ, h3, h4]
      clear hg h3 h4
      go_simp
      exact (has_c b hb x hx w').mono fun e w2 ⟨he, hb⟩ => ⟨_, he, hb, congrArg Value.bool HQ.out⟩
    case o6 =>
      intro vals w' hg hd
      have h2 : vals 2 = .bool true := hd.1
      clear hd
      simp only [putS, List.foldl_nil, List.foldl_cons, Act.put, List.setIfInBounds_toArray, List.set_cons_zero, List.set_cons_succ, h2]
      clear hg h2
      go_simp
      try go_bits
      exact isV_mk _ _
    case o7 =>
      intro vals w' hg hd
      have h5 : vals 5 = .bool false := hd.1
      clear hd
      simp only [putS, List.foldl_nil, List.foldl_cons, Act.put, List.setIfInBounds_toArray, List.set_cons_zero, List.set_cons_succ, h5]
      clear hg h5
      go_simp
      try go_bits
      exact isV_mk _ _
    case fin =>
      intro vals w' hg hd hfresh
      have h0 : vals 0 = .agg (AV a) := hd.1
      have h1 : vals 1 = .int .u8 x := hd.2.1
      have h2 : vals 2 = .bool true := hd.2.2.1
      have h3 : vals 3 = .agg (AV b) := hd.2.2.2.1
      have h4 : vals 4 = .int .u8 x := hd.2.2.2.2.1
      have h5 : vals 5 = .bool false := hd.2.2.2.2.2.1
      have h6 : vals 6 = .bool true := hd.2.2.2.2.2.2.1
      have h7 : vals 7 = .bool false := hd.2.2.2.2.2.2.2.1
      clear hd
      simp only [putS, List.foldl_nil, List.foldl_cons, Act.put, List.setIfInBounds_toArray, List.set_cons_zero, List.set_cons_succ, List.drop_succ_cons, List.drop_zero, h0, h1, h2, h3, h4, h5, h6, h7]
      have HA := Lib.hid (block_below' hg HA.out)
      have HB := Lib.hid (block_below' hg HB.out)
      have HC := Lib.hid (block_below' hg HC.out)
      have HE := Lib.hid (HE.out.trans hg)
      clear hg h0 h1 h2 h3 h4 h5 h6 h7 hfresh
      go_wp2_with fail
      refine wp_region_vars [some (.agg (AV a)), some (.agg (AV b)), some (.agg (AV (orW a b))), some (.agg (AV a)), some (.agg (AV b)), some (.agg (AV (andW a b))), some (.agg (AV a)), some (.agg (AV b)), some (.agg (AV (subW a b))), some (.agg (AV a)), some (.agg (AV (notW a))), none, none, none, none, none, none, none, none]
        [⟨11, 15, 2, 10, 28, (AV fun _ => 0), (AV (orW a b)), 24⟩, ⟨12, 16, 5, 11, 31, (AV fun _ => 0), (AV (andW a b)), 24⟩, ⟨13, 17, 8, 12, 34, (AV fun _ => 0), (AV (subW a b)), 24⟩, ⟨14, 18, 10, 13, 36, (AV fun _ => 0), (AV (notW a)), 24⟩] [(11, 15), (12, 16), (13, 17), (14, 18)] [[], [], [(0, 26), (1, 27)], [], [], [(3, 29), (4, 30)], [], [], [(6, 32), (7, 33)], [], [(9, 35)], [], [], [], [], [(2, 28), (11, 10)], [(5, 31), (12, 11)], [(8, 34), (13, 12)], [(10, 36), (14, 13)]] [(0, 26), (1, 27), (2, 28), (3, 29), (4, 30), (5, 31), (6, 32), (7, 33), (8, 34), (9, 35), (10, 36), (11, 10), (12, 11), (13, 12), (14, 13)] [true, true, true, true, true, true, true, true, true, true, true, false, false, false, false, false, false, false, false] (by kernel_rfl) (by kernel_rfl) rfl rfl ?vars ⟨?o0, ?o1, ?o2, ?o3, ?o4, ?o5, ?o6, ?o7, ?o8, ?o9, ?o10, trivial⟩ ?fin
      case vars => exact ⟨⟨⟨_, rfl, rfl, rfl, rfl⟩, ⟨_, rfl, rfl, rfl, rfl⟩, ⟨_, rfl, rfl⟩, rfl, by simp, by simp, z24, i24 _, by rw [AV_size, AV_size], AV_one _, rfl, rfl⟩, ⟨⟨_, rfl, rfl, rfl, rfl⟩, ⟨_, rfl, rfl, rfl, rfl⟩, ⟨_, rfl, rfl⟩, rfl, by simp, by simp, z24, i24 _, by rw [AV_size, AV_size], AV_one _, rfl, rfl⟩, ⟨⟨_, rfl, rfl, rfl, rfl⟩, ⟨_, rfl, rfl, rfl, rfl⟩, ⟨_, rfl, rfl⟩, rfl, by simp, by simp, z24, i24 _, by rw [AV_size, AV_size], AV_one _, rfl, rfl⟩, ⟨⟨_, rfl, rfl, rfl, rfl⟩, ⟨_, rfl, rfl, rfl, rfl⟩, ⟨_, rfl, rfl⟩, rfl, by simp, by simp, z24, i24 _, by rw [AV_size, AV_size], AV_one _, rfl, rfl⟩, trivial⟩
      case o0 =>
        intro vals w' hg hd
        clear hd
        simp only [putS, List.foldl_nil]
        exact one_load_row (by rfl) _ _ rfl _ rfl _ _ _ _ (block_below' hg HA.out) Try.underlying24 rfl (i24 _) (isV_mk _ _)
      case o1 =>
        intro vals w' hg hd
        clear hd
        simp only [putS, List.foldl_nil]
        exact one_load_row (by rfl) _ _ rfl _ rfl _ _ _ _ (block_below' hg HB.out) Try.underlying24 rfl (i24 _) (isV_mk _ _)
      case o2 =>
        intro vals w' hg hd
        have h0 : vals 0 = .agg (AV a) := hd.1
        have h1 : vals 1 = .agg (AV b) := hd.2.1
        clear hd
        simp only [putS, List.foldl_nil, List.foldl_cons, Act.put, List.setIfInBounds_toArray, List.set_cons_zero, List.set_cons_succ, h0, h1]
        clear hg h0 h1
        go_simp
        exact (union_c a b ha hb w').mono fun e w2 ⟨he, hb⟩ => ⟨_, he, hb, isV_mk _ _⟩
      case o3 =>
        intro vals w' hg hd
        clear hd
        simp only [putS, List.foldl_nil]
        exact one_load_row (by rfl) _ _ rfl _ rfl _ _ _ _ (block_below' hg HA.out) Try.underlying24 rfl (i24 _) (isV_mk _ _)
      case o4 =>
        intro vals w' hg hd
        clear hd
        simp only [putS, List.foldl_nil]
        exact one_load_row (by rfl) _ _ rfl _ rfl _ _ _ _ (block_below' hg HB.out) Try.underlying24 rfl (i24 _) (isV_mk _ _)
      case o5 =>
        intro vals w' hg hd
        have h3 : vals 3 = .agg (AV a) := hd.1
        have h4 : vals 4 = .agg (AV b) := hd.2.1
        clear hd
        simp only [putS, List.foldl_nil, List.foldl_cons, Act.put, List.setIfInBounds_toArray, List.set_cons_zero, List.set_cons_succ, h3, h4]
        clear hg h3 h4
        go_simp
        exact (meet_c a b ha hb w').mono fun e w2 ⟨he, hb⟩ => ⟨_, he, hb, isV_mk _ _⟩
      case o6 =>
        intro vals w' hg hd
        clear hd
        simp only [putS, List.foldl_nil]
        exact one_load_row (by rfl) _ _ rfl _ rfl _ _ _ _ (block_below' hg HA.out) Try.underlying24 rfl (i24 _) (isV_mk _ _)
      case o7 =>
        intro vals w' hg hd
        clear hd
        simp only [putS, List.foldl_nil]
        exact one_load_row (by rfl) _ _ rfl _ rfl _ _ _ _ (block_below' hg HB.out) Try.underlying24 rfl (i24 _) (isV_mk _ _)
      case o8 =>
        intro vals w' hg hd
        have h6 : vals 6 = .agg (AV a) := hd.1
        have h7 : vals 7 = .agg (AV b) := hd.2.1
        clear hd
        simp only [putS, List.foldl_nil, List.foldl_cons, Act.put, List.setIfInBounds_toArray, List.set_cons_zero, List.set_cons_succ, h6, h7]
        clear hg h6 h7
        go_simp
        exact (minus_c a b ha hb w').mono fun e w2 ⟨he, hb⟩ => ⟨_, he, hb, isV_mk _ _⟩
      case o9 =>
        intro vals w' hg hd
        clear hd
        simp only [putS, List.foldl_nil]
        exact one_load_row (by rfl) _ _ rfl _ rfl _ _ _ _ (block_below' hg HA.out) Try.underlying24 rfl (i24 _) (isV_mk _ _)
      case o10 =>
        intro vals w' hg hd
        have h9 : vals 9 = .agg (AV a) := hd.1
        clear hd
        simp only [putS, List.foldl_nil, List.foldl_cons, Act.put, List.setIfInBounds_toArray, List.set_cons_zero, List.set_cons_succ, h9]
        clear hg h9
        go_simp
        exact (not_c a ha w').mono fun e w2 ⟨he, hb⟩ => ⟨_, he, hb, isV_mk _ _⟩
      case fin =>
        intro vals w' hg hd hvs hdist
        have h0 : vals 0 = .agg (AV a) := hd.1
        have h1 : vals 1 = .agg (AV b) := hd.2.1
        have h2 : vals 2 = .agg (AV (orW a b)) := hd.2.2.1
        have h3 : vals 3 = .agg (AV a) := hd.2.2.2.1
        have h4 : vals 4 = .agg (AV b) := hd.2.2.2.2.1
        have h5 : vals 5 = .agg (AV (andW a b)) := hd.2.2.2.2.2.1
        have h6 : vals 6 = .agg (AV a) := hd.2.2.2.2.2.2.1
        have h7 : vals 7 = .agg (AV b) := hd.2.2.2.2.2.2.2.1
        have h8 : vals 8 = .agg (AV (subW a b)) := hd.2.2.2.2.2.2.2.2.1
        have h9 : vals 9 = .agg (AV a) := hd.2.2.2.2.2.2.2.2.2.1
        have h10 : vals 10 = .agg (AV (notW a)) := hd.2.2.2.2.2.2.2.2.2.2.1
        clear hd
        obtain ⟨⟨b11, h11, hn11, hb11⟩, ⟨b12, h12, hn12, hb12⟩, ⟨b13, h13, hn13, hb13⟩, ⟨b14, h14, hn14, hb14⟩, _⟩ := hvs
        simp only [putS, List.foldl_nil, List.foldl_cons, Act.put, List.setIfInBounds_toArray, List.set_cons_zero, List.set_cons_succ, h0, h1, h2, h3, h4, h5, h6, h7, h8, h9, h10, h11, h12, h13, h14]
        have HU := Lib.hid hb11; have HM := Lib.hid hb12; have HD := Lib.hid hb13; have HN := Lib.hid hb14
        have HA := Lib.hid (block_below' hg HA.out)
        have HB := Lib.hid (block_below' hg HB.out)
        have HC := Lib.hid (block_below' hg HC.out)
        have HE := Lib.hid (HE.out.trans hg)
        clear hg h0 h1 h2 h3 h4 h5 h6 h7 h8 h9 h10 h11 h12 h13 h14 hdist hb11 hb12 hb13 hb14 hn11 hn12 hn13 hn14
        go_wp2_with (first | (refine wpList_load_row rfl 24 _ rfl _ rfl _ _ _ _ HU.out Try.underlying24 rfl (i24 _) ?_; simp only [Act.put, List.setIfInBounds_toArray, List.set_cons_zero, List.set_cons_succ]) | (refine wpList_load_row_g (by rfl) 24 _ rfl _ rfl _ _ _ _ HU.out Try.underlying24 rfl (i24 _) ?_; simp only [Act.put, List.setIfInBounds_toArray, List.set_cons_zero, List.set_cons_succ]) | (refine wpList_load_row rfl 24 _ rfl _ rfl _ _ _ _ HM.out Try.underlying24 rfl (i24 _) ?_; simp only [Act.put, List.setIfInBounds_toArray, List.set_cons_zero, List.set_cons_succ]) | (refine wpList_load_row_g (by rfl) 24 _ rfl _ rfl _ _ _ _ HM.out Try.underlying24 rfl (i24 _) ?_; simp only [Act.put, List.setIfInBounds_toArray, List.set_cons_zero, List.set_cons_succ]) | (refine wpList_load_row rfl 24 _ rfl _ rfl _ _ _ _ HD.out Try.underlying24 rfl (i24 _) ?_; simp only [Act.put, List.setIfInBounds_toArray, List.set_cons_zero, List.set_cons_succ]) | (refine wpList_load_row_g (by rfl) 24 _ rfl _ rfl _ _ _ _ HD.out Try.underlying24 rfl (i24 _) ?_; simp only [Act.put, List.setIfInBounds_toArray, List.set_cons_zero, List.set_cons_succ]) | (refine wpList_load_row rfl 24 _ rfl _ rfl _ _ _ _ HN.out Try.underlying24 rfl (i24 _) ?_; simp only [Act.put, List.setIfInBounds_toArray, List.set_cons_zero, List.set_cons_succ]) | (refine wpList_load_row_g (by rfl) 24 _ rfl _ rfl _ _ _ _ HN.out Try.underlying24 rfl (i24 _) ?_; simp only [Act.put, List.setIfInBounds_toArray, List.set_cons_zero, List.set_cons_succ]))
        refine (has_c _ (orW_W64 ha hb) x hx _).mono ?_
        rw [KU.out]
        rintro e w2 ⟨rfl, hg⟩
        have HA := Lib.hid (block_below' hg HA.out)
        have HB := Lib.hid (block_below' hg HB.out)
        have HC := Lib.hid (block_below' hg HC.out)
        have HU := Lib.hid (block_below' hg HU.out)
        have HM := Lib.hid (block_below' hg HM.out)
        have HD := Lib.hid (block_below' hg HD.out)
        have HN := Lib.hid (block_below' hg HN.out)
        have HE := Lib.hid (HE.out.trans hg)
        clear hg
        go_wp2_with (first | (refine wpList_load_row rfl 24 _ rfl _ rfl _ _ _ _ HU.out Try.underlying24 rfl (i24 _) ?_; simp only [Act.put, List.setIfInBounds_toArray, List.set_cons_zero, List.set_cons_succ]) | (refine wpList_load_row_g (by rfl) 24 _ rfl _ rfl _ _ _ _ HU.out Try.underlying24 rfl (i24 _) ?_; simp only [Act.put, List.setIfInBounds_toArray, List.set_cons_zero, List.set_cons_succ]) | (refine wpList_load_row rfl 24 _ rfl _ rfl _ _ _ _ HM.out Try.underlying24 rfl (i24 _) ?_; simp only [Act.put, List.setIfInBounds_toArray, List.set_cons_zero, List.set_cons_succ]) | (refine wpList_load_row_g (by rfl) 24 _ rfl _ rfl _ _ _ _ HM.out Try.underlying24 rfl (i24 _) ?_; simp only [Act.put, List.setIfInBounds_toArray, List.set_cons_zero, List.set_cons_succ]) | (refine wpList_load_row rfl 24 _ rfl _ rfl _ _ _ _ HD.out Try.underlying24 rfl (i24 _) ?_; simp only [Act.put, List.setIfInBounds_toArray, List.set_cons_zero, List.set_cons_succ]) | (refine wpList_load_row_g (by rfl) 24 _ rfl _ rfl _ _ _ _ HD.out Try.underlying24 rfl (i24 _) ?_; simp only [Act.put, List.setIfInBounds_toArray, List.set_cons_zero, List.set_cons_succ]) | (refine wpList_load_row rfl 24 _ rfl _ rfl _ _ _ _ HN.out Try.underlying24 rfl (i24 _) ?_; simp only [Act.put, List.setIfInBounds_toArray, List.set_cons_zero, List.set_cons_succ]) | (refine wpList_load_row_g (by rfl) 24 _ rfl _ rfl _ _ _ _ HN.out Try.underlying24 rfl (i24 _) ?_; simp only [Act.put, List.setIfInBounds_toArray, List.set_cons_zero, List.set_cons_succ]))
        refine (has_c _ (andW_W64 ha b) x hx _).mono ?_
        rw [KM.out]
        rintro e w2 ⟨rfl, hg⟩
        have HA := Lib.hid (block_below' hg HA.out)
        have HB := Lib.hid (block_below' hg HB.out)
        have HC := Lib.hid (block_below' hg HC.out)
        have HU := Lib.hid (block_below' hg HU.out)
        have HM := Lib.hid (block_below' hg HM.out)
        have HD := Lib.hid (block_below' hg HD.out)
        have HN := Lib.hid (block_below' hg HN.out)
        have HE := Lib.hid (HE.out.trans hg)
        clear hg
        go_wp2_with (first | (refine wpList_load_row rfl 24 _ rfl _ rfl _ _ _ _ HU.out Try.underlying24 rfl (i24 _) ?_; simp only [Act.put, List.setIfInBounds_toArray, List.set_cons_zero, List.set_cons_succ]) | (refine wpList_load_row_g (by rfl) 24 _ rfl _ rfl _ _ _ _ HU.out Try.underlying24 rfl (i24 _) ?_; simp only [Act.put, List.setIfInBounds_toArray, List.set_cons_zero, List.set_cons_succ]) | (refine wpList_load_row rfl 24 _ rfl _ rfl _ _ _ _ HM.out Try.underlying24 rfl (i24 _) ?_; simp only [Act.put, List.setIfInBounds_toArray, List.set_cons_zero, List.set_cons_succ]) | (refine wpList_load_row_g (by rfl) 24 _ rfl _ rfl _ _ _ _ HM.out Try.underlying24 rfl (i24 _) ?_; simp only [Act.put, List.setIfInBounds_toArray, List.set_cons_zero, List.set_cons_succ]) | (refine wpList_load_row rfl 24 _ rfl _ rfl _ _ _ _ HD.out Try.underlying24 rfl (i24 _) ?_; simp only [Act.put, List.setIfInBounds_toArray, List.set_cons_zero, List.set_cons_succ]) | (refine wpList_load_row_g (by rfl) 24 _ rfl _ rfl _ _ _ _ HD.out Try.underlying24 rfl (i24 _) ?_; simp only [Act.put, List.setIfInBounds_toArray, List.set_cons_zero, List.set_cons_succ]) | (refine wpList_load_row rfl 24 _ rfl _ rfl _ _ _ _ HN.out Try.underlying24 rfl (i24 _) ?_; simp only [Act.put, List.setIfInBounds_toArray, List.set_cons_zero, List.set_cons_succ]) | (refine wpList_load_row_g (by rfl) 24 _ rfl _ rfl _ _ _ _ HN.out Try.underlying24 rfl (i24 _) ?_; simp only [Act.put, List.setIfInBounds_toArray, List.set_cons_zero, List.set_cons_succ]))
        refine (has_c _ (subW_W64 ha b) x hx _).mono ?_
        rw [KD.out]
        rintro e w2 ⟨rfl, hg⟩
        have HA := Lib.hid (block_below' hg HA.out)
        have HB := Lib.hid (block_below' hg HB.out)
        have HC := Lib.hid (block_below' hg HC.out)
        have HU := Lib.hid (block_below' hg HU.out)
        have HM := Lib.hid (block_below' hg HM.out)
        have HD := Lib.hid (block_below' hg HD.out)
        have HN := Lib.hid (block_below' hg HN.out)
        have HE := Lib.hid (HE.out.trans hg)
        clear hg
        go_wp2_with (first | (refine wpList_load_row rfl 24 _ rfl _ rfl _ _ _ _ HU.out Try.underlying24 rfl (i24 _) ?_; simp only [Act.put, List.setIfInBounds_toArray, List.set_cons_zero, List.set_cons_succ]) | (refine wpList_load_row_g (by rfl) 24 _ rfl _ rfl _ _ _ _ HU.out Try.underlying24 rfl (i24 _) ?_; simp only [Act.put, List.setIfInBounds_toArray, List.set_cons_zero, List.set_cons_succ]) | (refine wpList_load_row rfl 24 _ rfl _ rfl _ _ _ _ HM.out Try.underlying24 rfl (i24 _) ?_; simp only [Act.put, List.setIfInBounds_toArray, List.set_cons_zero, List.set_cons_succ]) | (refine wpList_load_row_g (by rfl) 24 _ rfl _ rfl _ _ _ _ HM.out Try.underlying24 rfl (i24 _) ?_; simp only [Act.put, List.setIfInBounds_toArray, List.set_cons_zero, List.set_cons_succ]) | (refine wpList_load_row rfl 24 _ rfl _ rfl _ _ _ _ HD.out Try.underlying24 rfl (i24 _) ?_; simp only [Act.put, List.setIfInBounds_toArray, List.set_cons_zero, List.set_cons_succ]) | (refine wpList_load_row_g (by rfl) 24 _ rfl _ rfl _ _ _ _ HD.out Try.underlying24 rfl (i24 _) ?_; simp only [Act.put, List.setIfInBounds_toArray, List.set_cons_zero, List.set_cons_succ]) | (refine wpList_load_row rfl 24 _ rfl _ rfl _ _ _ _ HN.out Try.underlying24 rfl (i24 _) ?_; simp only [Act.put, List.setIfInBounds_toArray, List.set_cons_zero, List.set_cons_succ]) | (refine wpList_load_row_g (by rfl) 24 _ rfl _ rfl _ _ _ _ HN.out Try.underlying24 rfl (i24 _) ?_; simp only [Act.put, List.setIfInBounds_toArray, List.set_cons_zero, List.set_cons_succ]))
        refine (has_c _ (notW_W64 a) x hx _).mono ?_
        rw [KN.out]
        rintro e w2 ⟨rfl, hg⟩
        have HA := Lib.hid (block_below' hg HA.out)
        have HB := Lib.hid (block_below' hg HB.out)
        have HC := Lib.hid (block_below' hg HC.out)
        have HU := Lib.hid (block_below' hg HU.out)
        have HM := Lib.hid (block_below' hg HM.out)
        have HD := Lib.hid (block_below' hg HD.out)
        have HN := Lib.hid (block_below' hg HN.out)
        have HE := Lib.hid (HE.out.trans hg)
        clear hg
        go_wp2_with fail
        refine wp_region_grows 26 [IsV (.agg (AV (orW a b))), IsV (.agg (AV (b))), IsV (.agg (AV (a))), IsV (.agg (AV (orW b a))), IsV (.bool false), IsV (.bool false), IsV (.agg (AV (andW a b))), IsV (.agg (AV (b))), IsV (.agg (AV (a))), IsV (.agg (AV (andW b a))), IsV (.bool false), IsV (.bool false), IsV (.bool false), IsV (.agg (AV (notW a))), IsV (.agg (AV (notW (notW a)))), IsV (.agg (AV (a))), IsV (.bool false), IsV (.bool false), IsV (.bool false), IsV (.agg (AV (subW a b))), IsV (.agg (AV (a))), IsV (.agg (AV (b))), IsV (.agg (AV (notW b))), IsV (.agg (AV (andW a (notW b)))), IsV (.bool false), IsV (.bool false)] []
          [[], [], [], [(1, 74), (2, 75)], [(0, 73), (3, 76)], [(4, 77)], [(5, 78)], [(5, 78)], [(5, 78)], [(5, 78), (7, 80), (8, 81)], [(5, 78), (6, 79), (9, 82)], [(5, 78), (10, 83)], [(11, 84)], [(12, 85)], [(12, 85), (13, 86)], [(12, 85)], [(12, 85), (14, 87), (15, 88)], [(12, 85), (16, 89)], [(17, 90)], [(18, 91)], [(18, 91)], [(18, 91)], [(18, 91), (21, 94)], [(18, 91), (20, 93), (22, 95)], [(18, 91), (19, 92), (23, 96)], [(18, 91), (24, 97)]] [(0, 73), (1, 74), (2, 75), (3, 76), (4, 77), (5, 78), (6, 79), (7, 80), (8, 81), (9, 82), (10, 83), (11, 84), (12, 85), (13, 86), (14, 87), (15, 88), (16, 89), (17, 90), (18, 91), (19, 92), (20, 93), (21, 94), (22, 95), (23, 96), (24, 97), (25, 98)] (by kernel_rfl) (by kernel_rfl) rfl ?stable ⟨?o0, ?o1, ?o2, ?o3, ?o4, ?o5, ?o6, ?o7, ?o8, ?o9, ?o10, ?o11, ?o12, ?o13, ?o14, ?o15, ?o16, ?o17, ?o18, ?o19, ?o20, ?o21, ?o22, ?o23, ?o24, ?o25, trivial⟩ ?fin
        case stable => exact ⟨IsV.stable _, IsV.stable _, IsV.stable _, IsV.stable _, IsV.stable _, IsV.stable _, IsV.stable _, IsV.stable _, IsV.stable _, IsV.stable _, IsV.stable _, IsV.stable _, IsV.stable _, IsV.stable _, IsV.stable _, IsV.stable _, IsV.stable _, IsV.stable _, IsV.stable _, IsV.stable _, IsV.stable _, IsV.stable _, IsV.stable _, IsV.stable _, IsV.stable _, IsV.stable _, trivial⟩
        case o0 =>
          intro vals w' hg hd
          clear hd
          simp only [putS, List.foldl_nil]
          exact one_load_row (by rfl) _ _ rfl _ rfl _ _ _ _ (block_below' hg HU.out) Try.underlying24 rfl (i24 _) (isV_mk _ _)
        case o1 =>
          intro vals w' hg hd
          clear hd
          simp only [putS, List.foldl_nil]
          exact one_load_row (by rfl) _ _ rfl _ rfl _ _ _ _ (block_below' hg HB.out) Try.underlying24 rfl (i24 _) (isV_mk _ _)
        case o2 =>
          intro vals w' hg hd
          clear hd
          simp only [putS, List.foldl_nil]
          exact one_load_row (by rfl) _ _ rfl _ rfl _ _ _ _ (block_below' hg HA.out) Try.underlying24 rfl (i24 _) (isV_mk _ _)
        case o3 =>
          intro vals w' hg hd
          have h1 : vals 1 = .agg (AV (b)) := hd.1
          have h2 : vals 2 = .agg (AV (a)) := hd.2.1
          clear hd
          simp only [putS, List.foldl_nil, List.foldl_cons, Act.put, List.setIfInBounds_toArray, List.set_cons_zero, List.set_cons_succ, h1, h2]
          clear hg h1 h2
          go_simp
          exact (union_c b a hb ha w').mono fun e w2 ⟨he, hb⟩ => ⟨_, he, hb, isV_mk _ _⟩
        case o4 =>
          intro vals w' hg hd
          have h0 : vals 0 = .agg (AV (orW a b)) := hd.1
          have h3 : vals 3 = .agg (AV (orW b a)) := hd.2.1
          clear hd
          simp only [putS, List.foldl_nil, List.foldl_cons, Act.put, List.setIfInBounds_toArray, List.set_cons_zero, List.set_cons_succ, h0, h3]
          have heq0 := fun w => eq_AV_true E1.out w
          clear hg h0 h3
          go_simp
          exact isV_mk _ _
        case o5 =>
          intro vals w' hg hd
          have h4 : vals 4 = .bool false := hd.1
          clear hd
          simp only [putS, List.foldl_nil, List.foldl_cons, Act.put, List.setIfInBounds_toArray, List.set_cons_zero, List.set_cons_succ, h4]
          clear hg h4
          go_simp
          try go_bits
          exact isV_mk _ _
        case o6 =>
          intro vals w' hg hd
          have h5 : vals 5 = .bool false := hd.1
          clear hd
          simp only [putS, List.foldl_nil, List.foldl_cons, Act.put, List.setIfInBounds_toArray, List.set_cons_zero, List.set_cons_succ, h5]
          exact one_load_row (by rfl) _ _ rfl _ rfl _ _ _ _ (block_below' hg HM.out) Try.underlying24 rfl (i24 _) (isV_mk _ _)
        case o7 =>
          intro vals w' hg hd
          have h5 : vals 5 = .bool false := hd.1
          clear hd
          simp only [putS, List.foldl_nil, List.foldl_cons, Act.put, List.setIfInBounds_toArray, List.set_cons_zero, List.set_cons_succ, h5]
          exact one_load_row (by rfl) _ _ rfl _ rfl _ _ _ _ (block_below' hg HB.out) Try.underlying24 rfl (i24 _) (isV_mk _ _)
        case o8 =>
          intro vals w' hg hd
          have h5 : vals 5 = .bool false := hd.1
          clear hd
          simp only [putS, List.foldl_nil, List.foldl_cons, Act.put, List.setIfInBounds_toArray, List.set_cons_zero, List.set_cons_succ, h5]
          exact one_load_row (by rfl) _ _ rfl _ rfl _ _ _ _ (block_below' hg HA.out) Try.underlying24 rfl (i24 _) (isV_mk _ _)
        case o9 =>
          intro vals w' hg hd
          have h5 : vals 5 = .bool false := hd.1
          have h7 : vals 7 = .agg (AV (b)) := hd.2.1
          have h8 : vals 8 = .agg (AV (a)) := hd.2.2.1
          clear hd
          simp only [putS, List.foldl_nil, List.foldl_cons, Act.put, List.setIfInBounds_toArray, List.set_cons_zero, List.set_cons_succ, h5, h7, h8]
          clear hg h5 h7 h8
          go_simp
          exact (meet_c b a hb ha w').mono fun e w2 ⟨he, hb⟩ => ⟨_, he, hb, isV_mk _ _⟩
        case o10 =>
          intro vals w' hg hd
          have h5 : vals 5 = .bool false := hd.1
          have h6 : vals 6 = .agg (AV (andW a b)) := hd.2.1
          have h9 : vals 9 = .agg (AV (andW b a)) := hd.2.2.1
          clear hd
          simp only [putS, List.foldl_nil, List.foldl_cons, Act.put, List.setIfInBounds_toArray, List.set_cons_zero, List.set_cons_succ, h5, h6, h9]
          have heq0 := fun w => eq_AV_true E2.out w
          clear hg h5 h6 h9
          go_simp
          exact isV_mk _ _
        case o11 =>
          intro vals w' hg hd
          have h5 : vals 5 = .bool false := hd.1
          have h10 : vals 10 = .bool false := hd.2.1
          clear hd
          simp only [putS, List.foldl_nil, List.foldl_cons, Act.put, List.setIfInBounds_toArray, List.set_cons_zero, List.set_cons_succ, h5, h10]
          clear hg h5 h10
          go_simp
          try go_bits
          exact isV_mk _ _
        case o12 =>
          intro vals w' hg hd
          have h11 : vals 11 = .bool false := hd.1
          clear hd
          simp only [putS, List.foldl_nil, List.foldl_cons, Act.put, List.setIfInBounds_toArray, List.set_cons_zero, List.set_cons_succ, h11]
          clear hg h11
          go_simp
          try go_bits
          exact isV_mk _ _
        case o13 =>
          intro vals w' hg hd
          have h12 : vals 12 = .bool false := hd.1
          clear hd
          simp only [putS, List.foldl_nil, List.foldl_cons, Act.put, List.setIfInBounds_toArray, List.set_cons_zero, List.set_cons_succ, h12]
          exact one_load_row (by rfl) _ _ rfl _ rfl _ _ _ _ (block_below' hg HN.out) Try.underlying24 rfl (i24 _) (isV_mk _ _)
        case o14 =>
          intro vals w' hg hd
          have h12 : vals 12 = .bool false := hd.1
          have h13 : vals 13 = .agg (AV (notW a)) := hd.2.1
          clear hd
          simp only [putS, List.foldl_nil, List.foldl_cons, Act.put, List.setIfInBounds_toArray, List.set_cons_zero, List.set_cons_succ, h12, h13]
          clear hg h12 h13
          go_simp
          exact (not_c _ (notW_W64 a) w').mono fun e w2 ⟨he, hb⟩ => ⟨_, he, hb, isV_mk _ _⟩
        case o15 =>
          intro vals w' hg hd
          have h12 : vals 12 = .bool false := hd.1
          clear hd
          simp only [putS, List.foldl_nil, List.foldl_cons, Act.put, List.setIfInBounds_toArray, List.set_cons_zero, List.set_cons_succ, h12]
          exact one_load_row (by rfl) _ _ rfl _ rfl _ _ _ _ (block_below' hg HA.out) Try.underlying24 rfl (i24 _) (isV_mk _ _)
        case o16 =>
          intro vals w' hg hd
          have h12 : vals 12 = .bool false := hd.1
          have h14 : vals 14 = .agg (AV (notW (notW a))) := hd.2.1
          have h15 : vals 15 = .agg (AV (a)) := hd.2.2.1
          clear hd
          simp only [putS, List.foldl_nil, List.foldl_cons, Act.put, List.setIfInBounds_toArray, List.set_cons_zero, List.set_cons_succ, h12, h14, h15]
          have heq0 := fun w => eq_AV_true E3.out w
          clear hg h12 h14 h15
          go_simp
          exact isV_mk _ _
        case o17 =>
          intro vals w' hg hd
          have h12 : vals 12 = .bool false := hd.1
          have h16 : vals 16 = .bool false := hd.2.1
          clear hd
          simp only [putS, List.foldl_nil, List.foldl_cons, Act.put, List.setIfInBounds_toArray, List.set_cons_zero, List.set_cons_succ, h12, h16]
          clear hg h12 h16
          go_simp
          try go_bits
          exact isV_mk _ _
        case o18 =>
          intro vals w' hg hd
          have h17 : vals 17 = .bool false := hd.1
          clear hd
          simp only [putS, List.foldl_nil, List.foldl_cons, Act.put, List.setIfInBounds_toArray, List.set_cons_zero, List.set_cons_succ, h17]
          clear hg h17
          go_simp
          try go_bits
          exact isV_mk _ _
        case o19 =>
          intro vals w' hg hd
          have h18 : vals 18 = .bool false := hd.1
          clear hd
          simp only [putS, List.foldl_nil, List.foldl_cons, Act.put, List.setIfInBounds_toArray, List.set_cons_zero, List.set_cons_succ, h18]
          exact one_load_row (by rfl) _ _ rfl _ rfl _ _ _ _ (block_below' hg HD.out) Try.underlying24 rfl (i24 _) (isV_mk _ _)
        case o20 =>
          intro vals w' hg hd
          have h18 : vals 18 = .bool false := hd.1
          clear hd
          simp only [putS, List.foldl_nil, List.foldl_cons, Act.put, List.setIfInBounds_toArray, List.set_cons_zero, List.set_cons_succ, h18]
          exact one_load_row (by rfl) _ _ rfl _ rfl _ _ _ _ (block_below' hg HA.out) Try.underlying24 rfl (i24 _) (isV_mk _ _)
        case o21 =>
          intro vals w' hg hd
          have h18 : vals 18 = .bool false := hd.1
          clear hd
          simp only [putS, List.foldl_nil, List.foldl_cons, Act.put, List.setIfInBounds_toArray, List.set_cons_zero, List.set_cons_succ, h18]
          exact one_load_row (by rfl) _ _ rfl _ rfl _ _ _ _ (block_below' hg HB.out) Try.underlying24 rfl (i24 _) (isV_mk _ _)
        case o22 =>
          intro vals w' hg hd
          have h18 : vals 18 = .bool false := hd.1
          have h21 : vals 21 = .agg (AV (b)) := hd.2.1
          clear hd
          simp only [putS, List.foldl_nil, List.foldl_cons, Act.put, List.setIfInBounds_toArray, List.set_cons_zero, List.set_cons_succ, h18, h21]
          clear hg h18 h21
          go_simp
          exact (not_c b hb w').mono fun e w2 ⟨he, hb⟩ => ⟨_, he, hb, isV_mk _ _⟩
        case o23 =>
          intro vals w' hg hd
          have h18 : vals 18 = .bool false := hd.1
          have h20 : vals 20 = .agg (AV (a)) := hd.2.1
          have h22 : vals 22 = .agg (AV (notW b)) := hd.2.2.1
          clear hd
          simp only [putS, List.foldl_nil, List.foldl_cons, Act.put, List.setIfInBounds_toArray, List.set_cons_zero, List.set_cons_succ, h18, h20, h22]
          clear hg h18 h20 h22
          go_simp
          exact (meet_c a _ ha (notW_W64 b) w').mono fun e w2 ⟨he, hb⟩ => ⟨_, he, hb, isV_mk _ _⟩
        case o24 =>
          intro vals w' hg hd
          have h18 : vals 18 = .bool false := hd.1
          have h19 : vals 19 = .agg (AV (subW a b)) := hd.2.1
          have h23 : vals 23 = .agg (AV (andW a (notW b))) := hd.2.2.1
          clear hd
          simp only [putS, List.foldl_nil, List.foldl_cons, Act.put, List.setIfInBounds_toArray, List.set_cons_zero, List.set_cons_succ, h18, h19, h23]
          have heq0 := fun w => eq_AV_true E4.out w
          clear hg h18 h19 h23
          go_simp
          exact isV_mk _ _
        case o25 =>
          intro vals w' hg hd
          have h18 : vals 18 = .bool false := hd.1
          have h24 : vals 24 = .bool false := hd.2.1
          clear hd
          simp only [putS, List.foldl_nil, List.foldl_cons, Act.put, List.setIfInBounds_toArray, List.set_cons_zero, List.set_cons_succ, h18, h24]
          clear hg h18 h24
          go_simp
          try go_bits
          exact isV_mk _ _
        case fin =>
          intro vals w' hg hd hfresh
          have h0 : vals 0 = .agg (AV (orW a b)) := hd.1
          have h1 : vals 1 = .agg (AV (b)) := hd.2.1
          have h2 : vals 2 = .agg (AV (a)) := hd.2.2.1
          have h3 : vals 3 = .agg (AV (orW b a)) := hd.2.2.2.1
          have h4 : vals 4 = .bool false := hd.2.2.2.2.1
          have h5 : vals 5 = .bool false := hd.2.2.2.2.2.1
          have h6 : vals 6 = .agg (AV (andW a b)) := hd.2.2.2.2.2.2.1
          have h7 : vals 7 = .agg (AV (b)) := hd.2.2.2.2.2.2.2.1
          have h8 : vals 8 = .agg (AV (a)) := hd.2.2.2.2.2.2.2.2.1
          have h9 : vals 9 = .agg (AV (andW b a)) := hd.2.2.2.2.2.2.2.2.2.1
          have h10 : vals 10 = .bool false := hd.2.2.2.2.2.2.2.2.2.2.1
          have h11 : vals 11 = .bool false := hd.2.2.2.2.2.2.2.2.2.2.2.1
          have h12 : vals 12 = .bool false := hd.2.2.2.2.2.2.2.2.2.2.2.2.1
          have h13 : vals 13 = .agg (AV (notW a)) := hd.2.2.2.2.2.2.2.2.2.2.2.2.2.1
          have h14 : vals 14 = .agg (AV (notW (notW a))) := hd.2.2.2.2.2.2.2.2.2.2.2.2.2.2.1
          have h15 : vals 15 = .agg (AV (a)) := hd.2.2.2.2.2.2.2.2.2.2.2.2.2.2.2.1
          have h16 : vals 16 = .bool false := hd.2.2.2.2.2.2.2.2.2.2.2.2.2.2.2.2.1
          have h17 : vals 17 = .bool false := hd.2.2.2.2.2.2.2.2.2.2.2.2.2.2.2.2.2.1
          have h18 : vals 18 = .bool false := hd.2.2.2.2.2.2.2.2.2.2.2.2.2.2.2.2.2.2.1
          have h19 : vals 19 = .agg (AV (subW a b)) := hd.2.2.2.2.2.2.2.2.2.2.2.2.2.2.2.2.2.2.2.1
          have h20 : vals 20 = .agg (AV (a)) := hd.2.2.2.2.2.2.2.2.2.2.2.2.2.2.2.2.2.2.2.2.1
          have h21 : vals 21 = .agg (AV (b)) := hd.2.2.2.2.2.2.2.2.2.2.2.2.2.2.2.2.2.2.2.2.2.1
          have h22 : vals 22 = .agg (AV (notW b)) := hd.2.2.2.2.2.2.2.2.2.2.2.2.2.2.2.2.2.2.2.2.2.2.1
          have h23 : vals 23 = .agg (AV (andW a (notW b))) := hd.2.2.2.2.2.2.2.2.2.2.2.2.2.2.2.2.2.2.2.2.2.2.2.1
          have h24 : vals 24 = .bool false := hd.2.2.2.2.2.2.2.2.2.2.2.2.2.2.2.2.2.2.2.2.2.2.2.2.1
          have h25 : vals 25 = .bool false := hd.2.2.2.2.2.2.2.2.2.2.2.2.2.2.2.2.2.2.2.2.2.2.2.2.2.1
          clear hd
          simp only [putS, List.foldl_nil, List.foldl_cons, Act.put, List.setIfInBounds_toArray, List.set_cons_zero, List.set_cons_succ, List.drop_succ_cons, List.drop_zero, h0, h1, h2, h3, h4, h5, h6, h7, h8, h9, h10, h11, h12, h13, h14, h15, h16, h17, h18, h19, h20, h21, h22, h23, h24, h25]
          have HA := Lib.hid (block_below' hg HA.out)
          have HB := Lib.hid (block_below' hg HB.out)
          have HC := Lib.hid (block_below' hg HC.out)
          have HU := Lib.hid (block_below' hg HU.out)
          have HM := Lib.hid (block_below' hg HM.out)
          have HD := Lib.hid (block_below' hg HD.out)
          have HN := Lib.hid (block_below' hg HN.out)
          have HE := Lib.hid (HE.out.trans hg)
          clear hg h0 h1 h2 h3 h4 h5 h6 h7 h8 h9 h10 h11 h12 h13 h14 h15 h16 h17 h18 h19 h20 h21 h22 h23 h24 h25 hfresh
          go_wp2_with fail
          refine wp_region_grows 20 [IsV (.agg (AV (orW a b))), IsV (.agg (AV (notW (orW a b)))), IsV (.agg (AV (notW a))), IsV (.agg (AV (b))), IsV (.agg (AV (notW b))), IsV (.agg (AV (andW (notW a) (notW b)))), IsV (.bool false), IsV (.bool false), IsV (.agg (AV (a))), IsV (.agg (AV (b))), IsV (.agg (AV (c))), IsV (.agg (AV (orW b c))), IsV (.agg (AV (andW a (orW b c)))), IsV (.agg (AV (andW a b))), IsV (.agg (AV (a))), IsV (.agg (AV (c))), IsV (.agg (AV (andW a c))), IsV (.agg (AV (orW (andW a b) (andW a c)))), IsV (.bool false), IsV (.bool false)] []
            [[], [(0, 99)], [], [], [(3, 102)], [(2, 101), (4, 103)], [(1, 100), (5, 104)], [(6, 105)], [(7, 106)], [(7, 106)], [(7, 106)], [(7, 106), (9, 108), (10, 109)], [(7, 106), (8, 107), (11, 110)], [(7, 106)], [(7, 106)], [(7, 106)], [(7, 106), (14, 113), (15, 114)], [(7, 106), (13, 112), (16, 115)], [(7, 106), (12, 111), (17, 116)], [(7, 106), (18, 117)]] [(0, 99), (1, 100), (2, 101), (3, 102), (4, 103), (5, 104), (6, 105), (7, 106), (8, 107), (9, 108), (10, 109), (11, 110), (12, 111), (13, 112), (14, 113), (15, 114), (16, 115), (17, 116), (18, 117), (19, 118)] (by kernel_rfl) (by kernel_rfl) rfl ?stable ⟨?o0, ?o1, ?o2, ?o3, ?o4, ?o5, ?o6, ?o7, ?o8, ?o9, ?o10, ?o11, ?o12, ?o13, ?o14, ?o15, ?o16, ?o17, ?o18, ?o19, trivial⟩ ?fin
          case stable => exact ⟨IsV.stable _, IsV.stable _, IsV.stable _, IsV.stable _, IsV.stable _, IsV.stable _, IsV.stable _, IsV.stable _, IsV.stable _, IsV.stable _, IsV.stable _, IsV.stable _, IsV.stable _, IsV.stable _, IsV.stable _, IsV.stable _, IsV.stable _, IsV.stable _, IsV.stable _, IsV.stable _, trivial⟩
          case o0 =>
            intro vals w' hg hd
            clear hd
            simp only [putS, List.foldl_nil]
            exact one_load_row (by rfl) _ _ rfl _ rfl _ _ _ _ (block_below' hg HU.out) Try.underlying24 rfl (i24 _) (isV_mk _ _)
          case o1 =>
            intro vals w' hg hd
            have h0 : vals 0 = .agg (AV (orW a b)) := hd.1
            clear hd
            simp only [putS, List.foldl_nil, List.foldl_cons, Act.put, List.setIfInBounds_toArray, List.set_cons_zero, List.set_cons_succ, h0]
            clear hg h0
            go_simp
            exact (not_c _ (orW_W64 ha hb) w').mono fun e w2 ⟨he, hb⟩ => ⟨_, he, hb, isV_mk _ _⟩
          case o2 =>
            intro vals w' hg hd
            clear hd
            simp only [putS, List.foldl_nil]
            exact one_load_row (by rfl) _ _ rfl _ rfl _ _ _ _ (block_below' hg HN.out) Try.underlying24 rfl (i24 _) (isV_mk _ _)
          case o3 =>
            intro vals w' hg hd
            clear hd
            simp only [putS, List.foldl_nil]
            exact one_load_row (by rfl) _ _ rfl _ rfl _ _ _ _ (block_below' hg HB.out) Try.underlying24 rfl (i24 _) (isV_mk _ _)
          case o4 =>
            intro vals w' hg hd
            have h3 : vals 3 = .agg (AV (b)) := hd.1
            clear hd
            simp only [putS, List.foldl_nil, List.foldl_cons, Act.put, List.setIfInBounds_toArray, List.set_cons_zero, List.set_cons_succ, h3]
            clear hg h3
            go_simp
            exact (not_c b hb w').mono fun e w2 ⟨he, hb⟩ => ⟨_, he, hb, isV_mk _ _⟩
          case o5 =>
            intro vals w' hg hd
            have h2 : vals 2 = .agg (AV (notW a)) := hd.1
            have h4 : vals 4 = .agg (AV (notW b)) := hd.2.1
            clear hd
            simp only [putS, List.foldl_nil, List.foldl_cons, Act.put, List.setIfInBounds_toArray, List.set_cons_zero, List.set_cons_succ, h2, h4]
            clear hg h2 h4
            go_simp
            exact (meet_c _ _ (notW_W64 a) (notW_W64 b) w').mono fun e w2 ⟨he, hb⟩ => ⟨_, he, hb, isV_mk _ _⟩
          case o6 =>
            intro vals w' hg hd
            have h1 : vals 1 = .agg (AV (notW (orW a b))) := hd.1
            have h5 : vals 5 = .agg (AV (andW (notW a) (notW b))) := hd.2.1
            clear hd
            simp only [putS, List.foldl_nil, List.foldl_cons, Act.put, List.setIfInBounds_toArray, List.set_cons_zero, List.set_cons_succ, h1, h5]
            have heq0 := fun w => eq_AV_true E5.out w
            clear hg h1 h5
            go_simp
            exact isV_mk _ _
          case o7 =>
            intro vals w' hg hd
            have h6 : vals 6 = .bool false := hd.1
            clear hd
            simp only [putS, List.foldl_nil, List.foldl_cons, Act.put, List.setIfInBounds_toArray, List.set_cons_zero, List.set_cons_succ, h6]
            clear hg h6
            go_simp
            try go_bits
            exact isV_mk _ _
          case o8 =>
            intro vals w' hg hd
            have h7 : vals 7 = .bool false := hd.1
            clear hd
            simp only [putS, List.foldl_nil, List.foldl_cons, Act.put, List.setIfInBounds_toArray, List.set_cons_zero, List.set_cons_succ, h7]
            exact one_load_row (by rfl) _ _ rfl _ rfl _ _ _ _ (block_below' hg HA.out) Try.underlying24 rfl (i24 _) (isV_mk _ _)
          case o9 =>
            intro vals w' hg hd
            have h7 : vals 7 = .bool false := hd.1
            clear hd
            simp only [putS, List.foldl_nil, List.foldl_cons, Act.put, List.setIfInBounds_toArray, List.set_cons_zero, List.set_cons_succ, h7]
            exact one_load_row (by rfl) _ _ rfl _ rfl _ _ _ _ (block_below' hg HB.out) Try.underlying24 rfl (i24 _) (isV_mk _ _)
          case o10 =>
            intro vals w' hg hd
            have h7 : vals 7 = .bool false := hd.1
            clear hd
            simp only [putS, List.foldl_nil, List.foldl_cons, Act.put, List.setIfInBounds_toArray, List.set_cons_zero, List.set_cons_succ, h7]
            exact one_load_row (by rfl) _ _ rfl _ rfl _ _ _ _ (block_below' hg HC.out) Try.underlying24 rfl (i24 _) (isV_mk _ _)
          case o11 =>
            intro vals w' hg hd
            have h7 : vals 7 = .bool false := hd.1
            have h9 : vals 9 = .agg (AV (b)) := hd.2.1
            have h10 : vals 10 = .agg (AV (c)) := hd.2.2.1
            clear hd
            simp only [putS, List.foldl_nil, List.foldl_cons, Act.put, List.setIfInBounds_toArray, List.set_cons_zero, List.set_cons_succ, h7, h9, h10]
            clear hg h7 h9 h10
            go_simp
            exact (union_c b c hb hc w').mono fun e w2 ⟨he, hb⟩ => ⟨_, he, hb, isV_mk _ _⟩
          case o12 =>
            intro vals w' hg hd
            have h7 : vals 7 = .bool false := hd.1
            have h8 : vals 8 = .agg (AV (a)) := hd.2.1
            have h11 : vals 11 = .agg (AV (orW b c)) := hd.2.2.1
            clear hd
            simp only [putS, List.foldl_nil, List.foldl_cons, Act.put, List.setIfInBounds_toArray, List.set_cons_zero, List.set_cons_succ, h7, h8, h11]
            clear hg h7 h8 h11
            go_simp
            exact (meet_c a _ ha (orW_W64 hb hc) w').mono fun e w2 ⟨he, hb⟩ => ⟨_, he, hb, isV_mk _ _⟩
          case o13 =>
            intro vals w' hg hd
            have h7 : vals 7 = .bool false := hd.1
            clear hd
            simp only [putS, List.foldl_nil, List.foldl_cons, Act.put, List.setIfInBounds_toArray, List.set_cons_zero, List.set_cons_succ, h7]
            exact one_load_row (by rfl) _ _ rfl _ rfl _ _ _ _ (block_below' hg HM.out) Try.underlying24 rfl (i24 _) (isV_mk _ _)
          case o14 =>
            intro vals w' hg hd
            have h7 : vals 7 = .bool false := hd.1
            clear hd
            simp only [putS, List.foldl_nil, List.foldl_cons, Act.put, List.setIfInBounds_toArray, List.set_cons_zero, List.set_cons_succ, h7]
            exact one_load_row (by rfl) _ _ rfl _ rfl _ _ _ _ (block_below' hg HA.out) Try.underlying24 rfl (i24 _) (isV_mk _ _)
          case o15 =>
            intro vals w' hg hd
            have h7 : vals 7 = .bool false := hd.1
            clear hd
            simp only [putS, List.foldl_nil, List.foldl_cons, Act.put, List.setIfInBounds_toArray, List.set_cons_zero, List.set_cons_succ, h7]
            exact one_load_row (by rfl) _ _ rfl _ rfl _ _ _ _ (block_below' hg HC.out) Try.underlying24 rfl (i24 _) (isV_mk _ _)
          case o16 =>
            intro vals w' hg hd
            have h7 : vals 7 = .bool false := hd.1
            have h14 : vals 14 = .agg (AV (a)) := hd.2.1
            have h15 : vals 15 = .agg (AV (c)) := hd.2.2.1
            clear hd
            simp only [putS, List.foldl_nil, List.foldl_cons, Act.put, List.setIfInBounds_toArray, List.set_cons_zero, List.set_cons_succ, h7, h14, h15]
            clear hg h7 h14 h15
            go_simp
            exact (meet_c a c ha hc w').mono fun e w2 ⟨he, hb⟩ => ⟨_, he, hb, isV_mk _ _⟩
          case o17 =>
            intro vals w' hg hd
            have h7 : vals 7 = .bool false := hd.1
            have h13 : vals 13 = .agg (AV (andW a b)) := hd.2.1
            have h16 : vals 16 = .agg (AV (andW a c)) := hd.2.2.1
            clear hd
            simp only [putS, List.foldl_nil, List.foldl_cons, Act.put, List.setIfInBounds_toArray, List.set_cons_zero, List.set_cons_succ, h7, h13, h16]
            clear hg h7 h13 h16
            go_simp
            exact (union_c _ _ (andW_W64 ha b) (andW_W64 ha c) w').mono fun e w2 ⟨he, hb⟩ => ⟨_, he, hb, isV_mk _ _⟩
          case o18 =>
            intro vals w' hg hd
            have h7 : vals 7 = .bool false := hd.1
            have h12 : vals 12 = .agg (AV (andW a (orW b c))) := hd.2.1
            have h17 : vals 17 = .agg (AV (orW (andW a b) (andW a c))) := hd.2.2.1
            clear hd
            simp only [putS, List.foldl_nil, List.foldl_cons, Act.put, List.setIfInBounds_toArray, List.set_cons_zero, List.set_cons_succ, h7, h12, h17]
            have heq0 := fun w => eq_AV_true E6.out w
            clear hg h7 h12 h17
            go_simp
            exact isV_mk _ _
          case o19 =>
            intro vals w' hg hd
            have h7 : vals 7 = .bool false := hd.1
            have h18 : vals 18 = .bool false := hd.2.1
            clear hd
            simp only [putS, List.foldl_nil, List.foldl_cons, Act.put, List.setIfInBounds_toArray, List.set_cons_zero, List.set_cons_succ, h7, h18]
            clear hg h7 h18
            go_simp
            try go_bits
            exact isV_mk _ _
          case fin =>
            intro vals w' hg hd hfresh
            have h0 : vals 0 = .agg (AV (orW a b)) := hd.1
            have h1 : vals 1 = .agg (AV (notW (orW a b))) := hd.2.1
            have h2 : vals 2 = .agg (AV (notW a)) := hd.2.2.1
            have h3 : vals 3 = .agg (AV (b)) := hd.2.2.2.1
            have h4 : vals 4 = .agg (AV (notW b)) := hd.2.2.2.2.1
            have h5 : vals 5 = .agg (AV (andW (notW a) (notW b))) := hd.2.2.2.2.2.1
            have h6 : vals 6 = .bool false := hd.2.2.2.2.2.2.1
            have h7 : vals 7 = .bool false := hd.2.2.2.2.2.2.2.1
            have h8 : vals 8 = .agg (AV (a)) := hd.2.2.2.2.2.2.2.2.1
            have h9 : vals 9 = .agg (AV (b)) := hd.2.2.2.2.2.2.2.2.2.1
            have h10 : vals 10 = .agg (AV (c)) := hd.2.2.2.2.2.2.2.2.2.2.1
            have h11 : vals 11 = .agg (AV (orW b c)) := hd.2.2.2.2.2.2.2.2.2.2.2.1
            have h12 : vals 12 = .agg (AV (andW a (orW b c))) := hd.2.2.2.2.2.2.2.2.2.2.2.2.1
            have h13 : vals 13 = .agg (AV (andW a b)) := hd.2.2.2.2.2.2.2.2.2.2.2.2.2.1
            have h14 : vals 14 = .agg (AV (a)) := hd.2.2.2.2.2.2.2.2.2.2.2.2.2.2.1
            have h15 : vals 15 = .agg (AV (c)) := hd.2.2.2.2.2.2.2.2.2.2.2.2.2.2.2.1
            have h16 : vals 16 = .agg (AV (andW a c)) := hd.2.2.2.2.2.2.2.2.2.2.2.2.2.2.2.2.1
            have h17 : vals 17 = .agg (AV (orW (andW a b) (andW a c))) := hd.2.2.2.2.2.2.2.2.2.2.2.2.2.2.2.2.2.1
            have h18 : vals 18 = .bool false := hd.2.2.2.2.2.2.2.2.2.2.2.2.2.2.2.2.2.2.1
            have h19 : vals 19 = .bool false := hd.2.2.2.2.2.2.2.2.2.2.2.2.2.2.2.2.2.2.2.1
            clear hd
            simp only [putS, List.foldl_nil, List.foldl_cons, Act.put, List.setIfInBounds_toArray, List.set_cons_zero, List.set_cons_succ, List.drop_succ_cons, List.drop_zero, h0, h1, h2, h3, h4, h5, h6, h7, h8, h9, h10, h11, h12, h13, h14, h15, h16, h17, h18, h19]
            have HA := Lib.hid (block_below' hg HA.out)
            have HB := Lib.hid (block_below' hg HB.out)
            have HC := Lib.hid (block_below' hg HC.out)
            have HU := Lib.hid (block_below' hg HU.out)
            have HM := Lib.hid (block_below' hg HM.out)
            have HD := Lib.hid (block_below' hg HD.out)
            have HN := Lib.hid (block_below' hg HN.out)
            have HE := Lib.hid (HE.out.trans hg)
            clear hg h0 h1 h2 h3 h4 h5 h6 h7 h8 h9 h10 h11 h12 h13 h14 h15 h16 h17 h18 h19 hfresh
            go_wp2_with fail
            refine wp_region_grows 23 [IsV (.bool true), IsV (.bool true), IsV (.agg (AV (orW a b))), IsV (.int .i64 (nu : Nat)), IsV (.agg (AV (andW a b))), IsV (.int .i64 (nm : Nat)), IsV (.int .i64 (nu + nm : Nat)), IsV (.agg (AV (a))), IsV (.int .i64 (na : Nat)), IsV (.agg (AV (b))), IsV (.int .i64 (nb : Nat)), IsV (.int .i64 (na + nb : Nat)), IsV (.bool true), IsV (.bool true), IsV (.bool true), IsV (.agg (AV (a))), IsV (.int .i64 (na : Nat)), IsV (.agg (AV (notW a))), IsV (.int .i64 (nn : Nat)), IsV (.int .i64 (na + nn : Nat)), IsV (.bool true), IsV (.bool true), IsV (.bool true)] []
              [[], [(0, 119)], [(1, 120)], [(1, 120), (2, 121)], [(1, 120)], [(1, 120), (4, 123)], [(1, 120), (3, 122), (5, 124)], [(1, 120)], [(1, 120), (7, 126)], [(1, 120)], [(1, 120), (9, 128)], [(1, 120), (8, 127), (10, 129)], [(1, 120), (6, 125), (11, 130)], [(1, 120), (12, 131)], [(13, 132)], [(14, 133)], [(14, 133), (15, 134)], [(14, 133)], [(14, 133), (17, 136)], [(14, 133), (16, 135), (18, 137)], [(14, 133), (19, 138)], [(14, 133), (20, 139)], [(21, 140)]] [(0, 119), (1, 120), (2, 121), (3, 122), (4, 123), (5, 124), (6, 125), (7, 126), (8, 127), (9, 128), (10, 129), (11, 130), (12, 131), (13, 132), (14, 133), (15, 134), (16, 135), (17, 136), (18, 137), (19, 138), (20, 139), (21, 140), (22, 4)] (by kernel_rfl) (by kernel_rfl) rfl ?stable ⟨?o0, ?o1, ?o2, ?o3, ?o4, ?o5, ?o6, ?o7, ?o8, ?o9, ?o10, ?o11, ?o12, ?o13, ?o14, ?o15, ?o16, ?o17, ?o18, ?o19, ?o20, ?o21, ?o22, trivial⟩ ?fin
            case stable => exact ⟨IsV.stable _, IsV.stable _, IsV.stable _, IsV.stable _, IsV.stable _, IsV.stable _, IsV.stable _, IsV.stable _, IsV.stable _, IsV.stable _, IsV.stable _, IsV.stable _, IsV.stable _, IsV.stable _, IsV.stable _, IsV.stable _, IsV.stable _, IsV.stable _, IsV.stable _, IsV.stable _, IsV.stable _, IsV.stable _, IsV.stable _, trivial⟩
            case o0 =>
              intro vals w' hg hd
              clear hd
              simp only [putS, List.foldl_nil]
              clear hg
              go_simp
              exact (alive_c w').mono fun e w2 ⟨he, hb⟩ => ⟨_, he, hb, isV_mk _ _⟩
            case o1 =>
              intro vals w' hg hd
              have h0 : vals 0 = .bool true := hd.1
              clear hd
              simp only [putS, List.foldl_nil, List.foldl_cons, Act.put, List.setIfInBounds_toArray, List.set_cons_zero, List.set_cons_succ, h0]
              clear hg h0
              go_simp
              try go_bits
              exact isV_mk _ _
            case o2 =>
              intro vals w' hg hd
              have h1 : vals 1 = .bool true := hd.1
              clear hd
              simp only [putS, List.foldl_nil, List.foldl_cons, Act.put, List.setIfInBounds_toArray, List.set_cons_zero, List.set_cons_succ, h1]
              exact one_load_row (by rfl) _ _ rfl _ rfl _ _ _ _ (block_below' hg HU.out) Try.underlying24 rfl (i24 _) (isV_mk _ _)
            case o3 =>
              intro vals w' hg hd
              have h1 : vals 1 = .bool true := hd.1
              have h2 : vals 2 = .agg (AV (orW a b)) := hd.2.1
              clear hd
              simp only [putS, List.foldl_nil, List.foldl_cons, Act.put, List.setIfInBounds_toArray, List.set_cons_zero, List.set_cons_succ, h1, h2]
              clear hg h1 h2
              go_simp
              exact (len_c (orW a b) (orW_W64 ha hb) w').mono fun e w2 ⟨he, hb⟩ => ⟨_, he, hb, (by unfold IsV; rw [NU.out])⟩
            case o4 =>
              intro vals w' hg hd
              have h1 : vals 1 = .bool true := hd.1
              clear hd
              simp only [putS, List.foldl_nil, List.foldl_cons, Act.put, List.setIfInBounds_toArray, List.set_cons_zero, List.set_cons_succ, h1]
              exact one_load_row (by rfl) _ _ rfl _ rfl _ _ _ _ (block_below' hg HM.out) Try.underlying24 rfl (i24 _) (isV_mk _ _)
            case o5 =>
              intro vals w' hg hd
              have h1 : vals 1 = .bool true := hd.1
              have h4 : vals 4 = .agg (AV (andW a b)) := hd.2.1
              clear hd
              simp only [putS, List.foldl_nil, List.foldl_cons, Act.put, List.setIfInBounds_toArray, List.set_cons_zero, List.set_cons_succ, h1, h4]
              clear hg h1 h4
              go_simp
              exact (len_c (andW a b) (andW_W64 ha b) w').mono fun e w2 ⟨he, hb⟩ => ⟨_, he, hb, (by unfold IsV; rw [NM.out])⟩
            case o6 =>
              intro vals w' hg hd
              have h1 : vals 1 = .bool true := hd.1
              have h3 : vals 3 = .int .i64 (nu : Nat) := hd.2.1
              have h5 : vals 5 = .int .i64 (nm : Nat) := hd.2.2.1
              clear hd
              simp only [putS, List.foldl_nil, List.foldl_cons, Act.put, List.setIfInBounds_toArray, List.set_cons_zero, List.set_cons_succ, h1, h3, h5]
              clear hg h1 h3 h5
              go_simp
              try go_bits
              exact isV_mk _ _
            case o7 =>
              intro vals w' hg hd
              have h1 : vals 1 = .bool true := hd.1
              clear hd
              simp only [putS, List.foldl_nil, List.foldl_cons, Act.put, List.setIfInBounds_toArray, List.set_cons_zero, List.set_cons_succ, h1]
              exact one_load_row (by rfl) _ _ rfl _ rfl _ _ _ _ (block_below' hg HA.out) Try.underlying24 rfl (i24 _) (isV_mk _ _)
            case o8 =>
              intro vals w' hg hd
              have h1 : vals 1 = .bool true := hd.1
              have h7 : vals 7 = .agg (AV (a)) := hd.2.1
              clear hd
              simp only [putS, List.foldl_nil, List.foldl_cons, Act.put, List.setIfInBounds_toArray, List.set_cons_zero, List.set_cons_succ, h1, h7]
              clear hg h1 h7
              go_simp
              exact (len_c (a) (ha) w').mono fun e w2 ⟨he, hb⟩ => ⟨_, he, hb, (by unfold IsV; rw [NA.out])⟩
            case o9 =>
              intro vals w' hg hd
              have h1 : vals 1 = .bool true := hd.1
              clear hd
              simp only [putS, List.foldl_nil, List.foldl_cons, Act.put, List.setIfInBounds_toArray, List.set_cons_zero, List.set_cons_succ, h1]
              exact one_load_row (by rfl) _ _ rfl _ rfl _ _ _ _ (block_below' hg HB.out) Try.underlying24 rfl (i24 _) (isV_mk _ _)
            case o10 =>
              intro vals w' hg hd
              have h1 : vals 1 = .bool true := hd.1
              have h9 : vals 9 = .agg (AV (b)) := hd.2.1
              clear hd
              simp only [putS, List.foldl_nil, List.foldl_cons, Act.put, List.setIfInBounds_toArray, List.set_cons_zero, List.set_cons_succ, h1, h9]
              clear hg h1 h9
              go_simp
              exact (len_c (b) (hb) w').mono fun e w2 ⟨he, hb⟩ => ⟨_, he, hb, (by unfold IsV; rw [NB.out])⟩
            case o11 =>
              intro vals w' hg hd
              have h1 : vals 1 = .bool true := hd.1
              have h8 : vals 8 = .int .i64 (na : Nat) := hd.2.1
              have h10 : vals 10 = .int .i64 (nb : Nat) := hd.2.2.1
              clear hd
              simp only [putS, List.foldl_nil, List.foldl_cons, Act.put, List.setIfInBounds_toArray, List.set_cons_zero, List.set_cons_succ, h1, h8, h10]
              clear hg h1 h8 h10
              go_simp
              try go_bits
              exact isV_mk _ _
            case o12 =>
              intro vals w' hg hd
              have h1 : vals 1 = .bool true := hd.1
              have h6 : vals 6 = .int .i64 (nu + nm : Nat) := hd.2.1
              have h11 : vals 11 = .int .i64 (na + nb : Nat) := hd.2.2.1
              clear hd
              simp only [putS, List.foldl_nil, List.foldl_cons, Act.put, List.setIfInBounds_toArray, List.set_cons_zero, List.set_cons_succ, h1, h6, h11]
              have hs1 := NS1.out
              clear hg h1 h6 h11
              go_simp
              exact congrArg Value.bool (by first | (simp; omega) | simp)
            case o13 =>
              intro vals w' hg hd
              have h1 : vals 1 = .bool true := hd.1
              have h12 : vals 12 = .bool true := hd.2.1
              clear hd
              simp only [putS, List.foldl_nil, List.foldl_cons, Act.put, List.setIfInBounds_toArray, List.set_cons_zero, List.set_cons_succ, h1, h12]
              clear hg h1 h12
              go_simp
              try go_bits
              exact isV_mk _ _
            case o14 =>
              intro vals w' hg hd
              have h13 : vals 13 = .bool true := hd.1
              clear hd
              simp only [putS, List.foldl_nil, List.foldl_cons, Act.put, List.setIfInBounds_toArray, List.set_cons_zero, List.set_cons_succ, h13]
              clear hg h13
              go_simp
              try go_bits
              exact isV_mk _ _
            case o15 =>
              intro vals w' hg hd
              have h14 : vals 14 = .bool true := hd.1
              clear hd
              simp only [putS, List.foldl_nil, List.foldl_cons, Act.put, List.setIfInBounds_toArray, List.set_cons_zero, List.set_cons_succ, h14]
              exact one_load_row (by rfl) _ _ rfl _ rfl _ _ _ _ (block_below' hg HA.out) Try.underlying24 rfl (i24 _) (isV_mk _ _)
            case o16 =>
              intro vals w' hg hd
              have h14 : vals 14 = .bool true := hd.1
              have h15 : vals 15 = .agg (AV (a)) := hd.2.1
              clear hd
              simp only [putS, List.foldl_nil, List.foldl_cons, Act.put, List.setIfInBounds_toArray, List.set_cons_zero, List.set_cons_succ, h14, h15]
              clear hg h14 h15
              go_simp
              exact (len_c (a) (ha) w').mono fun e w2 ⟨he, hb⟩ => ⟨_, he, hb, (by unfold IsV; rw [NA.out])⟩
            case o17 =>
              intro vals w' hg hd
              have h14 : vals 14 = .bool true := hd.1
              clear hd
              simp only [putS, List.foldl_nil, List.foldl_cons, Act.put, List.setIfInBounds_toArray, List.set_cons_zero, List.set_cons_succ, h14]
              exact one_load_row (by rfl) _ _ rfl _ rfl _ _ _ _ (block_below' hg HN.out) Try.underlying24 rfl (i24 _) (isV_mk _ _)
            case o18 =>
              intro vals w' hg hd
              have h14 : vals 14 = .bool true := hd.1
              have h17 : vals 17 = .agg (AV (notW a)) := hd.2.1
              clear hd
              simp only [putS, List.foldl_nil, List.foldl_cons, Act.put, List.setIfInBounds_toArray, List.set_cons_zero, List.set_cons_succ, h14, h17]
              clear hg h14 h17
              go_simp
              exact (len_c (notW a) (notW_W64 a) w').mono fun e w2 ⟨he, hb⟩ => ⟨_, he, hb, (by unfold IsV; rw [NN.out])⟩
            case o19 =>
              intro vals w' hg hd
              have h14 : vals 14 = .bool true := hd.1
              have h16 : vals 16 = .int .i64 (na : Nat) := hd.2.1
              have h18 : vals 18 = .int .i64 (nn : Nat) := hd.2.2.1
              clear hd
              simp only [putS, List.foldl_nil, List.foldl_cons, Act.put, List.setIfInBounds_toArray, List.set_cons_zero, List.set_cons_succ, h14, h16, h18]
              clear hg h14 h16 h18
              go_simp
              try go_bits
              exact isV_mk _ _
            case o20 =>
              intro vals w' hg hd
              have h14 : vals 14 = .bool true := hd.1
              have h19 : vals 19 = .int .i64 (na + nn : Nat) := hd.2.1
              clear hd
              simp only [putS, List.foldl_nil, List.foldl_cons, Act.put, List.setIfInBounds_toArray, List.set_cons_zero, List.set_cons_succ, h14, h19]
              have hs1 := NS2.out
              clear hg h14 h19
              go_simp
              exact congrArg Value.bool (by first | (simp; omega) | simp)
            case o21 =>
              intro vals w' hg hd
              have h14 : vals 14 = .bool true := hd.1
              have h20 : vals 20 = .bool true := hd.2.1
              clear hd
              simp only [putS, List.foldl_nil, List.foldl_cons, Act.put, List.setIfInBounds_toArray, List.set_cons_zero, List.set_cons_succ, h14, h20]
              clear hg h14 h20
              go_simp
              try go_bits
              exact isV_mk _ _
            case o22 =>
              intro vals w' hg hd
              have h21 : vals 21 = .bool true := hd.1
              clear hd
              simp only [putS, List.foldl_nil, List.foldl_cons, Act.put, List.setIfInBounds_toArray, List.set_cons_zero, List.set_cons_succ, h21]
              clear hg h21
              go_simp
              try go_bits
              exact isV_mk _ _
            case fin =>
              intro vals w' hg hd hfresh
              have h0 : vals 0 = .bool true := hd.1
              have h1 : vals 1 = .bool true := hd.2.1
              have h2 : vals 2 = .agg (AV (orW a b)) := hd.2.2.1
              have h3 : vals 3 = .int .i64 (nu : Nat) := hd.2.2.2.1
              have h4 : vals 4 = .agg (AV (andW a b)) := hd.2.2.2.2.1
              have h5 : vals 5 = .int .i64 (nm : Nat) := hd.2.2.2.2.2.1
              have h6 : vals 6 = .int .i64 (nu + nm : Nat) := hd.2.2.2.2.2.2.1
              have h7 : vals 7 = .agg (AV (a)) := hd.2.2.2.2.2.2.2.1
              have h8 : vals 8 = .int .i64 (na : Nat) := hd.2.2.2.2.2.2.2.2.1
              have h9 : vals 9 = .agg (AV (b)) := hd.2.2.2.2.2.2.2.2.2.1
              have h10 : vals 10 = .int .i64 (nb : Nat) := hd.2.2.2.2.2.2.2.2.2.2.1
              have h11 : vals 11 = .int .i64 (na + nb : Nat) := hd.2.2.2.2.2.2.2.2.2.2.2.1
              have h12 : vals 12 = .bool true := hd.2.2.2.2.2.2.2.2.2.2.2.2.1
              have h13 : vals 13 = .bool true := hd.2.2.2.2.2.2.2.2.2.2.2.2.2.1
              have h14 : vals 14 = .bool true := hd.2.2.2.2.2.2.2.2.2.2.2.2.2.2.1
              have h15 : vals 15 = .agg (AV (a)) := hd.2.2.2.2.2.2.2.2.2.2.2.2.2.2.2.1
              have h16 : vals 16 = .int .i64 (na : Nat) := hd.2.2.2.2.2.2.2.2.2.2.2.2.2.2.2.2.1
              have h17 : vals 17 = .agg (AV (notW a)) := hd.2.2.2.2.2.2.2.2.2.2.2.2.2.2.2.2.2.1
              have h18 : vals 18 = .int .i64 (nn : Nat) := hd.2.2.2.2.2.2.2.2.2.2.2.2.2.2.2.2.2.2.1
              have h19 : vals 19 = .int .i64 (na + nn : Nat) := hd.2.2.2.2.2.2.2.2.2.2.2.2.2.2.2.2.2.2.2.1
              have h20 : vals 20 = .bool true := hd.2.2.2.2.2.2.2.2.2.2.2.2.2.2.2.2.2.2.2.2.1
              have h21 : vals 21 = .bool true := hd.2.2.2.2.2.2.2.2.2.2.2.2.2.2.2.2.2.2.2.2.2.1
              have h22 : vals 22 = .bool true := hd.2.2.2.2.2.2.2.2.2.2.2.2.2.2.2.2.2.2.2.2.2.2.1
              clear hd
              simp only [putS, List.foldl_nil, List.foldl_cons, Act.put, List.setIfInBounds_toArray, List.set_cons_zero, List.set_cons_succ, List.drop_succ_cons, List.drop_zero, h0, h1, h2, h3, h4, h5, h6, h7, h8, h9, h10, h11, h12, h13, h14, h15, h16, h17, h18, h19, h20, h21, h22]
              have HEnd := Lib.hid (HE.out.trans hg)
              clear hg h0 h1 h2 h3 h4 h5 h6 h7 h8 h9 h10 h11 h12 h13 h14 h15 h16 h17 h18 h19 h20 h21 h22 hfresh
              go_wp2
              go_ret
              exact ⟨rfl, HEnd.out⟩
set_option maxHeartbeats 16000000
theorem algebra_ft (a b c : Nat → Nat) (ha : W64 a) (hb : W64 b) (hc : W64 c) (x : Nat) (hx : x < 256) (w : World) (hp : bit a x = false) (hq : bit b x = true) :
    Calls Try.prog 8 #[.agg (ABC a b c), .int .u8 x] w fun e w' => e = .returned (.bool true) ∧ Below w.heap.size w w' := by
  have KU : Hid (bit (orW a b) x = (false || true)) := Lib.hid (by rw [bit_orW, hp, hq])
  have KM : Hid (bit (andW a b) x = (false && true)) := Lib.hid (by rw [bit_andW, hp, hq])
  have KD : Hid (bit (subW a b) x = (false && !true)) := Lib.hid (by rw [bit_subW hb, hp, hq])
  have KN : Hid (bit (notW a) x = !false) := Lib.hid (by rw [bit_notW ha, hp])
  have HP := Lib.hid hp
  have HQ := Lib.hid hq
  clear hp hq
  have E1 : Hid (eqS (orW a b) (orW b a) = true) := Lib.hid (eqS_of (orW_W64 ha hb) (orW_W64 hb ha) fun j _ => by rw [bit_orW, bit_orW, Bool.or_comm])
  have E2 : Hid (eqS (andW a b) (andW b a) = true) := Lib.hid (eqS_of (andW_W64 ha b) (andW_W64 hb a) fun j _ => by rw [bit_andW, bit_andW, Bool.and_comm])
  have E3 : Hid (eqS (notW (notW a)) a = true) := Lib.hid (eqS_of (notW_W64 _) ha fun j _ => by rw [bit_notW (notW_W64 a), bit_notW ha, Bool.not_not])
  have E4 : Hid (eqS (subW a b) (andW a (notW b)) = true) := Lib.hid (eqS_of (subW_W64 ha b) (andW_W64 ha _) fun j _ => by rw [bit_subW hb, bit_andW, bit_notW hb])
  have E5 : Hid (eqS (notW (orW a b)) (andW (notW a) (notW b)) = true) := Lib.hid (eqS_of (notW_W64 _) (andW_W64 (notW_W64 a) _) fun j _ => by rw [bit_notW (orW_W64 ha hb), bit_andW, bit_notW ha, bit_notW hb, bit_orW, Bool.not_or])
  have E6 : Hid (eqS (andW a (orW b c)) (orW (andW a b) (andW a c)) = true) := Lib.hid (eqS_of (andW_W64 ha _) (orW_W64 (andW_W64 ha b) (andW_W64 ha c)) fun j _ => by rw [bit_andW, bit_orW, bit_orW, bit_andW, bit_andW, Bool.and_or_distrib_left])
  obtain ⟨nu, hnu⟩ : ∃ n, n = cnt (bit (orW a b)) 256 := ⟨_, rfl⟩
  obtain ⟨nm, hnm⟩ : ∃ n, n = cnt (bit (andW a b)) 256 := ⟨_, rfl⟩
  obtain ⟨na, hna⟩ : ∃ n, n = cnt (bit a) 256 := ⟨_, rfl⟩
  obtain ⟨nb, hnb⟩ : ∃ n, n = cnt (bit b) 256 := ⟨_, rfl⟩
  obtain ⟨nn, hnn⟩ : ∃ n, n = cnt (bit (notW a)) 256 := ⟨_, rfl⟩
  have NS1 : Hid (nu + nm = na + nb) := Lib.hid (by
    rw [hnu, hnm, hna, hnb, cnt_congr 256 (fun j _ => bit_orW a b j), cnt_congr 256 (fun j _ => bit_andW a b j)]; exact cnt_or_and _ _ _)
  have NS2 : Hid (na + nn = 256) := Lib.hid (by rw [hna, hnn, cnt_congr 256 (fun j _ => bit_notW ha j)]; exact cnt_not _ _)
  have u1 : nu ≤ 256 := hnu ▸ cnt_le _ _
  have u2 : nm ≤ 256 := hnm ▸ cnt_le _ _
  have u3 : na ≤ 256 := hna ▸ cnt_le _ _
  have u4 : nb ≤ 256 := hnb ▸ cnt_le _ _
  have u5 : nn ≤ 256 := hnn ▸ cnt_le _ _
  have NU := Lib.hid hnu; have NM := Lib.hid hnm; have NA := Lib.hid hna; have NB := Lib.hid hnb; have NN := Lib.hid hnn
  clear hnu hnm hna hnb hnn
  simp only [Bool.or_false, Bool.or_true, Bool.and_false, Bool.and_true, Bool.not_true, Bool.not_false] at KU KM KD KN
  go_enter Try.func8, Try.ntmps8
  go_wp2_with fail
  obtain ⟨B0, hB0⟩ : ∃ B0, B0 = w.heap.size := ⟨_, rfl⟩
  have H0 := Lib.hid (heap_at w (.cells (ABC a b c) 45) B0 hB0)
  have HE : Hid (Grew w (w.alloc (.cells (ABC a b c) 45))) := Lib.hid (grew_alloc _ _)
  generalize w.alloc (.cells (ABC a b c) 45) = w1 at H0 HE ⊢
  rw [← hB0]
  clear hB0
  refine wp_region_vars [some (.pointer (some ⟨B0, 0, none⟩)), some (.agg (AV a)), some (.pointer (some ⟨B0, 4, none⟩)), some (.agg (AV b)), some (.pointer (some ⟨B0, 8, none⟩)), some (.agg (AV c)), none, none, none, none, none, none]
    [⟨6, 9, 1, 5, 15, (AV fun _ => 0), (AV a), 24⟩, ⟨7, 10, 3, 6, 17, (AV fun _ => 0), (AV b), 24⟩, ⟨8, 11, 5, 7, 19, (AV fun _ => 0), (AV c), 24⟩] [(6, 9), (7, 10), (8, 11)] [[], [(0, 14)], [], [(2, 16)], [], [(4, 18)], [], [], [], [(1, 15), (6, 5)], [(3, 17), (7, 6)], [(5, 19), (8, 7)]] [(0, 14), (1, 15), (2, 16), (3, 17), (4, 18), (5, 19), (6, 5), (7, 6), (8, 7)] [true, true, true, true, true, true, false, false, false, false, false, false] (by kernel_rfl) (by kernel_rfl) rfl rfl ?vars ⟨?o0, ?o1, ?o2, ?o3, ?o4, ?o5, trivial⟩ ?fin
  case vars => exact ⟨⟨⟨_, rfl, rfl, rfl, rfl⟩, ⟨_, rfl, rfl, rfl, rfl⟩, ⟨_, rfl, rfl⟩, rfl, by simp, by simp, z24, i24 _, by rw [AV_size, AV_size], AV_one _, rfl, rfl⟩, ⟨⟨_, rfl, rfl, rfl, rfl⟩, ⟨_, rfl, rfl, rfl, rfl⟩, ⟨_, rfl, rfl⟩, rfl, by simp, by simp, z24, i24 _, by rw [AV_size, AV_size], AV_one _, rfl, rfl⟩, ⟨⟨_, rfl, rfl, rfl, rfl⟩, ⟨_, rfl, rfl, rfl, rfl⟩, ⟨_, rfl, rfl⟩, rfl, by simp, by simp, z24, i24 _, by rw [AV_size, AV_size], AV_one _, rfl, rfl⟩, trivial⟩
  case o0 =>
    intro vals w' hg hd
    clear hd
    simp only [putS, List.foldl_nil]
    clear hg
    go_simp
    try go_bits
    exact isV_mk _ _
  case o1 =>
    intro vals w' hg hd
    have h0 : vals 0 = .pointer (some ⟨B0, 0, none⟩) := hd.1
    clear hd
    simp only [putS, List.foldl_nil, List.foldl_cons, Act.put, List.setIfInBounds_toArray, List.set_cons_zero, List.set_cons_succ, h0]
    exact one_load_mid (by rfl) 24 _ rfl B0 0 rfl (AV a).toList _ (fun j v hv => abc_at a b c (block_below' hg H0.out) 0 _ rfl j v hv) Try.underlying24 rfl (by rw [Array.length_toList]; exact i24 _) (by rw [Array.toArray_toList]; exact isV_mk _ _)
  case o2 =>
    intro vals w' hg hd
    clear hd
    simp only [putS, List.foldl_nil]
    clear hg
    go_simp
    try go_bits
    exact isV_mk _ _
  case o3 =>
    intro vals w' hg hd
    have h2 : vals 2 = .pointer (some ⟨B0, 4, none⟩) := hd.1
    clear hd
    simp only [putS, List.foldl_nil, List.foldl_cons, Act.put, List.setIfInBounds_toArray, List.set_cons_zero, List.set_cons_succ, h2]
    exact one_load_mid (by rfl) 24 _ rfl B0 4 rfl (AV b).toList _ (fun j v hv => abc_at a b c (block_below' hg H0.out) 1 _ rfl j v hv) Try.underlying24 rfl (by rw [Array.length_toList]; exact i24 _) (by rw [Array.toArray_toList]; exact isV_mk _ _)
  case o4 =>
    intro vals w' hg hd
    clear hd
    simp only [putS, List.foldl_nil]
    clear hg
    go_simp
    try go_bits
    exact isV_mk _ _
  case o5 =>
    intro vals w' hg hd
    have h4 : vals 4 = .pointer (some ⟨B0, 8, none⟩) := hd.1
    clear hd
    simp only [putS, List.foldl_nil, List.foldl_cons, Act.put, List.setIfInBounds_toArray, List.set_cons_zero, List.set_cons_succ, h4]
    exact one_load_mid (by rfl) 24 _ rfl B0 8 rfl (AV c).toList _ (fun j v hv => abc_at a b c (block_below' hg H0.out) 2 _ rfl j v hv) Try.underlying24 rfl (by rw [Array.length_toList]; exact i24 _) (by rw [Array.toArray_toList]; exact isV_mk _ _)
  case fin =>
    intro vals w' hg hd hvs hdist
    have h0 : vals 0 = .pointer (some ⟨B0, 0, none⟩) := hd.1
    have h1 : vals 1 = .agg (AV a) := hd.2.1
    have h2 : vals 2 = .pointer (some ⟨B0, 4, none⟩) := hd.2.2.1
    have h3 : vals 3 = .agg (AV b) := hd.2.2.2.1
    have h4 : vals 4 = .pointer (some ⟨B0, 8, none⟩) := hd.2.2.2.2.1
    have h5 : vals 5 = .agg (AV c) := hd.2.2.2.2.2.1
    clear hd
    obtain ⟨⟨b6, h6, hn6, hb6⟩, ⟨b7, h7, hn7, hb7⟩, ⟨b8, h8, hn8, hb8⟩, _⟩ := hvs
    simp only [putS, List.foldl_nil, List.foldl_cons, Act.put, List.setIfInBounds_toArray, List.set_cons_zero, List.set_cons_succ, h0, h1, h2, h3, h4, h5, h6, h7, h8]
    have HA := Lib.hid hb6; have HB := Lib.hid hb7; have HC := Lib.hid hb8
    have HE := Lib.hid (HE.out.trans hg)
    clear hg h0 h1 h2 h3 h4 h5 h6 h7 h8 hdist hb6 hb7 hb8 hn6 hn7 hn8 H0
    go_wp2_with fail
    refine wp_region_grows 8 [IsV (.agg (AV a)), IsV (.int .u8 x), IsV (.bool false), IsV (.agg (AV b)), IsV (.int .u8 x), IsV (.bool true), IsV (.bool false), IsV (.bool true)] []
      [[], [], [(0, 20), (1, 21)], [], [], [(3, 23), (4, 24)], [(2, 22)], [(5, 25)]] [(0, 20), (1, 21), (2, 22), (3, 23), (4, 24), (5, 25), (6, 8), (7, 9)] (by kernel_rfl) (by kernel_rfl) rfl ?stable ⟨?o0, ?o1, ?o2, ?o3, ?o4, ?o5, ?o6, ?o7, trivial⟩ ?fin
    case stable => exact ⟨IsV.stable _, IsV.stable _, IsV.stable _, IsV.stable _, IsV.stable _, IsV.stable _, IsV.stable _, IsV.stable _, trivial⟩
    case o0 =>
      intro vals w' hg hd
      clear hd
      simp only [putS, List.foldl_nil]
      exact one_load_row (by rfl) _ _ rfl _ rfl _ _ _ _ (block_below' hg HA.out) Try.underlying24 rfl (i24 _) (isV_mk _ _)
    case o1 =>
      intro vals w' hg hd
      clear hd
      simp only [putS, List.foldl_nil]
      clear hg
      go_simp
      try go_bits
      exact isV_mk _ _
    case o2 =>
      intro vals w' hg hd
      have h0 : vals 0 = .agg (AV a) := hd.1
      have h1 : vals 1 = .int .u8 x := hd.2.1
      clear hd
      simp only [putS, List.foldl_nil, List.foldl_cons, Act.put, List.setIfInBounds_toArray, List.set_cons_zero, List.set_cons_succ, h0, h1]
      clear hg h0 h1
      go_simp
      exact (has_c a ha x hx w').mono fun e w2 ⟨he, hb⟩ => ⟨_, he, hb, congrArg Value.bool HP.out⟩
    case o3 =>
      intro vals w' hg hd
      clear hd
      simp only [putS, List.foldl_nil]
      exact one_load_row (by rfl) _ _ rfl _ rfl _ _ _ _ (block_below' hg HB.out) Try.underlying24 rfl (i24 _) (isV_mk _ _)
    case o4 =>
      intro vals w' hg hd
      clear hd
      simp only [putS, List.foldl_nil]
      clear hg
      go_simp
      try go_bits
      exact isV_mk _ _
    case o5 =>
      intro vals w' hg hd
      have h3 : vals 3 = .agg (AV b) := hd.1
      have h4 : vals 4 = .int .u8 x := hd.2.1
      clear hd
      simp only [putS, List.foldl_nil, List.foldl_cons, Act.put, List.setIfInBounds_toArray, List.set_cons_zero, List.set_cons_succ, h3, h4]
      clear hg h3 h4
      go_simp
      exact (has_c b hb x hx w').mono fun e w2 ⟨he, hb⟩ => ⟨_, he, hb, congrArg Value.bool HQ.out⟩
    case o6 =>
      intro vals w' hg hd
      have h2 : vals 2 = .bool false := hd.1
      clear hd
      simp only [putS, List.foldl_nil, List.foldl_cons, Act.put, List.setIfInBounds_toArray, List.set_cons_zero, List.set_cons_succ, h2]
      clear hg h2
      go_simp
      try go_bits
      exact isV_mk _ _
    case o7 =>
      intro vals w' hg hd
      have h5 : vals 5 = .bool true := hd.1
      clear hd
      simp only [putS, List.foldl_nil, List.foldl_cons, Act.put, List.setIfInBounds_toArray, List.set_cons_zero, List.set_cons_succ, h5]
      clear hg h5
      go_simp
      try go_bits
      exact isV_mk _ _
    case fin =>
      intro vals w' hg hd hfresh
      have h0 : vals 0 = .agg (AV a) := hd.1
      have h1 : vals 1 = .int .u8 x := hd.2.1
      have h2 : vals 2 = .bool false := hd.2.2.1
      have h3 : vals 3 = .agg (AV b) := hd.2.2.2.1
      have h4 : vals 4 = .int .u8 x := hd.2.2.2.2.1
      have h5 : vals 5 = .bool true := hd.2.2.2.2.2.1
      have h6 : vals 6 = .bool false := hd.2.2.2.2.2.2.1
      have h7 : vals 7 = .bool true := hd.2.2.2.2.2.2.2.1
      clear hd
      simp only [putS, List.foldl_nil, List.foldl_cons, Act.put, List.setIfInBounds_toArray, List.set_cons_zero, List.set_cons_succ, List.drop_succ_cons, List.drop_zero, h0, h1, h2, h3, h4, h5, h6, h7]
      have HA := Lib.hid (block_below' hg HA.out)
      have HB := Lib.hid (block_below' hg HB.out)
      have HC := Lib.hid (block_below' hg HC.out)
      have HE := Lib.hid (HE.out.trans hg)
      clear hg h0 h1 h2 h3 h4 h5 h6 h7 hfresh
      go_wp2_with fail
      refine wp_region_vars [some (.agg (AV a)), some (.agg (AV b)), some (.agg (AV (orW a b))), some (.agg (AV a)), some (.agg (AV b)), some (.agg (AV (andW a b))), some (.agg (AV a)), some (.agg (AV b)), some (.agg (AV (subW a b))), some (.agg (AV a)), some (.agg (AV (notW a))), none, none, none, none, none, none, none, none]
        [⟨11, 15, 2, 10, 28, (AV fun _ => 0), (AV (orW a b)), 24⟩, ⟨12, 16, 5, 11, 31, (AV fun _ => 0), (AV (andW a b)), 24⟩, ⟨13, 17, 8, 12, 34, (AV fun _ => 0), (AV (subW a b)), 24⟩, ⟨14, 18, 10, 13, 36, (AV fun _ => 0), (AV (notW a)), 24⟩] [(11, 15), (12, 16), (13, 17), (14, 18)] [[], [], [(0, 26), (1, 27)], [], [], [(3, 29), (4, 30)], [], [], [(6, 32), (7, 33)], [], [(9, 35)], [], [], [], [], [(2, 28), (11, 10)], [(5, 31), (12, 11)], [(8, 34), (13, 12)], [(10, 36), (14, 13)]] [(0, 26), (1, 27), (2, 28), (3, 29), (4, 30), (5, 31), (6, 32), (7, 33), (8, 34), (9, 35), (10, 36), (11, 10), (12, 11), (13, 12), (14, 13)] [true, true, true, true, true, true, true, true, true, true, true, false, false, false, false, false, false, false, false] (by kernel_rfl) (by kernel_rfl) rfl rfl ?vars ⟨?o0, ?o1, ?o2, ?o3, ?o4, ?o5, ?o6, ?o7, ?o8, ?o9, ?o10, trivial⟩ ?fin
      case vars => exact ⟨⟨⟨_, rfl, rfl, rfl, rfl⟩, ⟨_, rfl, rfl, rfl, rfl⟩, ⟨_, rfl, rfl⟩, rfl, by simp, by simp, z24, i24 _, by rw [AV_size, AV_size], AV_one _, rfl, rfl⟩, ⟨⟨_, rfl, rfl, rfl, rfl⟩, ⟨_, rfl, rfl, rfl, rfl⟩, ⟨_, rfl, rfl⟩, rfl, by simp, by simp, z24, i24 _, by rw [AV_size, AV_size], AV_one _, rfl, rfl⟩, ⟨⟨_, rfl, rfl, rfl, rfl⟩, ⟨_, rfl, rfl, rfl, rfl⟩, ⟨_, rfl, rfl⟩, rfl, by simp, by simp, z24, i24 _, by rw [AV_size, AV_size], AV_one _, rfl, rfl⟩, ⟨⟨_, rfl, rfl, rfl, rfl⟩, ⟨_, rfl, rfl, rfl, rfl⟩, ⟨_, rfl, rfl⟩, rfl, by simp, by simp, z24, i24 _, by rw [AV_size, AV_size], AV_one _, rfl, rfl⟩, trivial⟩
      case o0 =>
        intro vals w' hg hd
        clear hd
        simp only [putS, List.foldl_nil]
        exact one_load_row (by rfl) _ _ rfl _ rfl _ _ _ _ (block_below' hg HA.out) Try.underlying24 rfl (i24 _) (isV_mk _ _)
      case o1 =>
        intro vals w' hg hd
        clear hd
        simp only [putS, List.foldl_nil]
        exact one_load_row (by rfl) _ _ rfl _ rfl _ _ _ _ (block_below' hg HB.out) Try.underlying24 rfl (i24 _) (isV_mk _ _)
      case o2 =>
        intro vals w' hg hd
        have h0 : vals 0 = .agg (AV a) := hd.1
        have h1 : vals 1 = .agg (AV b) := hd.2.1
        clear hd
        simp only [putS, List.foldl_nil, List.foldl_cons, Act.put, List.setIfInBounds_toArray, List.set_cons_zero, List.set_cons_succ, h0, h1]
        clear hg h0 h1
        go_simp
        exact (union_c a b ha hb w').mono fun e w2 ⟨he, hb⟩ => ⟨_, he, hb, isV_mk _ _⟩
      case o3 =>
        intro vals w' hg hd
        clear hd
        simp only [putS, List.foldl_nil]
        exact one_load_row (by rfl) _ _ rfl _ rfl _ _ _ _ (block_below' hg HA.out) Try.underlying24 rfl (i24 _) (isV_mk _ _)
      case o4 =>
        intro vals w' hg hd
        clear hd
        simp only [putS, List.foldl_nil]
        exact one_load_row (by rfl) _ _ rfl _ rfl _ _ _ _ (block_below' hg HB.out) Try.underlying24 rfl (i24 _) (isV_mk _ _)
      case o5 =>
        intro vals w' hg hd
        have h3 : vals 3 = .agg (AV a) := hd.1
        have h4 : vals 4 = .agg (AV b) := hd.2.1
        clear hd
        simp only [putS, List.foldl_nil, List.foldl_cons, Act.put, List.setIfInBounds_toArray, List.set_cons_zero, List.set_cons_succ, h3, h4]
        clear hg h3 h4
        go_simp
        exact (meet_c a b ha hb w').mono fun e w2 ⟨he, hb⟩ => ⟨_, he, hb, isV_mk _ _⟩
      case o6 =>
        intro vals w' hg hd
        clear hd
        simp only [putS, List.foldl_nil]
        exact one_load_row (by rfl) _ _ rfl _ rfl _ _ _ _ (block_below' hg HA.out) Try.underlying24 rfl (i24 _) (isV_mk _ _)
      case o7 =>
        intro vals w' hg hd
        clear hd
        simp only [putS, List.foldl_nil]
        exact one_load_row (by rfl) _ _ rfl _ rfl _ _ _ _ (block_below' hg HB.out) Try.underlying24 rfl (i24 _) (isV_mk _ _)
      case o8 =>
        intro vals w' hg hd
        have h6 : vals 6 = .agg (AV a) := hd.1
        have h7 : vals 7 = .agg (AV b) := hd.2.1
        clear hd
        simp only [putS, List.foldl_nil, List.foldl_cons, Act.put, List.setIfInBounds_toArray, List.set_cons_zero, List.set_cons_succ, h6, h7]
        clear hg h6 h7
        go_simp
        exact (minus_c a b ha hb w').mono fun e w2 ⟨he, hb⟩ => ⟨_, he, hb, isV_mk _ _⟩
      case o9 =>
        intro vals w' hg hd
        clear hd
        simp only [putS, List.foldl_nil]
        exact one_load_row (by rfl) _ _ rfl _ rfl _ _ _ _ (block_below' hg HA.out) Try.underlying24 rfl (i24 _) (isV_mk _ _)
      case o10 =>
        intro vals w' hg hd
        have h9 : vals 9 = .agg (AV a) := hd.1
        clear hd
        simp only [putS, List.foldl_nil, List.foldl_cons, Act.put, List.setIfInBounds_toArray, List.set_cons_zero, List.set_cons_succ, h9]
        clear hg h9
        go_simp
        exact (not_c a ha w').mono fun e w2 ⟨he, hb⟩ => ⟨_, he, hb, isV_mk _ _⟩
      case fin =>
        intro vals w' hg hd hvs hdist
        have h0 : vals 0 = .agg (AV a) := hd.1
        have h1 : vals 1 = .agg (AV b) := hd.2.1
        have h2 : vals 2 = .agg (AV (orW a b)) := hd.2.2.1
        have h3 : vals 3 = .agg (AV a) := hd.2.2.2.1
        have h4 : vals 4 = .agg (AV b) := hd.2.2.2.2.1
        have h5 : vals 5 = .agg (AV (andW a b)) := hd.2.2.2.2.2.1
        have h6 : vals 6 = .agg (AV a) := hd.2.2.2.2.2.2.1
        have h7 : vals 7 = .agg (AV b) := hd.2.2.2.2.2.2.2.1
        have h8 : vals 8 = .agg (AV (subW a b)) := hd.2.2.2.2.2.2.2.2.1
        have h9 : vals 9 = .agg (AV a) := hd.2.2.2.2.2.2.2.2.2.1
        have h10 : vals 10 = .agg (AV (notW a)) := hd.2.2.2.2.2.2.2.2.2.2.1
        clear hd
        obtain ⟨⟨b11, h11, hn11, hb11⟩, ⟨b12, h12, hn12, hb12⟩, ⟨b13, h13, hn13, hb13⟩, ⟨b14, h14, hn14, hb14⟩, _⟩ := hvs
        simp only [putS, List.foldl_nil, List.foldl_cons, Act.put, List.setIfInBounds_toArray, List.set_cons_zero, List.set_cons_succ, h0, h1, h2, h3, h4, h5, h6, h7, h8, h9, h10, h11, h12, h13, h14]
        have HU := Lib.hid hb11; have HM := Lib.hid hb12; have HD := Lib.hid hb13; have HN := Lib.hid hb14
        have HA := Lib.hid (block_below' hg HA.out)
        have HB := Lib.hid (block_below' hg HB.out)
        have HC := Lib.hid (block_below' hg HC.out)
        have HE := Lib.hid (HE.out.trans hg)
        clear hg h0 h1 h2 h3 h4 h5 h6 h7 h8 h9 h10 h11 h12 h13 h14 hdist hb11 hb12 hb13 hb14 hn11 hn12 hn13 hn14
        go_wp2_with (first | (refine wpList_load_row rfl 24 _ rfl _ rfl _ _ _ _ HU.out Try.underlying24 rfl (i24 _) ?_; simp only [Act.put, List.setIfInBounds_toArray, List.set_cons_zero, List.set_cons_succ]) | (refine wpList_load_row_g (by rfl) 24 _ rfl _ rfl _ _ _ _ HU.out Try.underlying24 rfl (i24 _) ?_; simp only [Act.put, List.setIfInBounds_toArray, List.set_cons_zero, List.set_cons_succ]) | (refine wpList_load_row rfl 24 _ rfl _ rfl _ _ _ _ HM.out Try.underlying24 rfl (i24 _) ?_; simp only [Act.put, List.setIfInBounds_toArray, List.set_cons_zero, List.set_cons_succ]) | (refine wpList_load_row_g (by rfl) 24 _ rfl _ rfl _ _ _ _ HM.out Try.underlying24 rfl (i24 _) ?_; simp only [Act.put, List.setIfInBounds_toArray, List.set_cons_zero, List.set_cons_succ]) | (refine wpList_load_row rfl 24 _ rfl _ rfl _ _ _ _ HD.out Try.underlying24 rfl (i24 _) ?_; simp only [Act.put, List.setIfInBounds_toArray, List.set_cons_zero, List.set_cons_succ]) | (refine wpList_load_row_g (by rfl) 24 _ rfl _ rfl _ _ _ _ HD.out Try.underlying24 rfl (i24 _) ?_; simp only [Act.put, List.setIfInBounds_toArray, List.set_cons_zero, List.set_cons_succ]) | (refine wpList_load_row rfl 24 _ rfl _ rfl _ _ _ _ HN.out Try.underlying24 rfl (i24 _) ?_; simp only [Act.put, List.setIfInBounds_toArray, List.set_cons_zero, List.set_cons_succ]) | (refine wpList_load_row_g (by rfl) 24 _ rfl _ rfl _ _ _ _ HN.out Try.underlying24 rfl (i24 _) ?_; simp only [Act.put, List.setIfInBounds_toArray, List.set_cons_zero, List.set_cons_succ]))
        refine (has_c _ (orW_W64 ha hb) x hx _).mono ?_
        rw [KU.out]
        rintro e w2 ⟨rfl, hg⟩
        have HA := Lib.hid (block_below' hg HA.out)
        have HB := Lib.hid (block_below' hg HB.out)
        have HC := Lib.hid (block_below' hg HC.out)
        have HU := Lib.hid (block_below' hg HU.out)
        have HM := Lib.hid (block_below' hg HM.out)
        have HD := Lib.hid (block_below' hg HD.out)
        have HN := Lib.hid (block_below' hg HN.out)
        have HE := Lib.hid (HE.out.trans hg)
        clear hg
        go_wp2_with (first | (refine wpList_load_row rfl 24 _ rfl _ rfl _ _ _ _ HU.out Try.underlying24 rfl (i24 _) ?_; simp only [Act.put, List.setIfInBounds_toArray, List.set_cons_zero, List.set_cons_succ]) | (refine wpList_load_row_g (by rfl) 24 _ rfl _ rfl _ _ _ _ HU.out Try.underlying24 rfl (i24 _) ?_; simp only [Act.put, List.setIfInBounds_toArray, List.set_cons_zero, List.set_cons_succ]) | (refine wpList_load_row rfl 24 _ rfl _ rfl _ _ _ _ HM.out Try.underlying24 rfl (i24 _) ?_; simp only [Act.put, List.setIfInBounds_toArray, List.set_cons_zero, List.set_cons_succ]) | (refine wpList_load_row_g (by rfl) 24 _ rfl _ rfl _ _ _ _ HM.out Try.underlying24 rfl (i24 _) ?_; simp only [Act.put, List.setIfInBounds_toArray, List.set_cons_zero, List.set_cons_succ]) | (refine wpList_load_row rfl 24 _ rfl _ rfl _ _ _ _ HD.out Try.underlying24 rfl (i24 _) ?_; simp only [Act.put, List.setIfInBounds_toArray, List.set_cons_zero, List.set_cons_succ]) | (refine wpList_load_row_g (by rfl) 24 _ rfl _ rfl _ _ _ _ HD.out Try.underlying24 rfl (i24 _) ?_; simp only [Act.put, List.setIfInBounds_toArray, List.set_cons_zero, List.set_cons_succ]) | (refine wpList_load_row rfl 24 _ rfl _ rfl _ _ _ _ HN.out Try.underlying24 rfl (i24 _) ?_; simp only [Act.put, List.setIfInBounds_toArray, List.set_cons_zero, List.set_cons_succ]) | (refine wpList_load_row_g (by rfl) 24 _ rfl _ rfl _ _ _ _ HN.out Try.underlying24 rfl (i24 _) ?_; simp only [Act.put, List.setIfInBounds_toArray, List.set_cons_zero, List.set_cons_succ]))
        refine (has_c _ (andW_W64 ha b) x hx _).mono ?_
        rw [KM.out]
        rintro e w2 ⟨rfl, hg⟩
        have HA := Lib.hid (block_below' hg HA.out)
        have HB := Lib.hid (block_below' hg HB.out)
        have HC := Lib.hid (block_below' hg HC.out)
        have HU := Lib.hid (block_below' hg HU.out)
        have HM := Lib.hid (block_below' hg HM.out)
        have HD := Lib.hid (block_below' hg HD.out)
        have HN := Lib.hid (block_below' hg HN.out)
        have HE := Lib.hid (HE.out.trans hg)
        clear hg
        go_wp2_with (first | (refine wpList_load_row rfl 24 _ rfl _ rfl _ _ _ _ HU.out Try.underlying24 rfl (i24 _) ?_; simp only [Act.put, List.setIfInBounds_toArray, List.set_cons_zero, List.set_cons_succ]) | (refine wpList_load_row_g (by rfl) 24 _ rfl _ rfl _ _ _ _ HU.out Try.underlying24 rfl (i24 _) ?_; simp only [Act.put, List.setIfInBounds_toArray, List.set_cons_zero, List.set_cons_succ]) | (refine wpList_load_row rfl 24 _ rfl _ rfl _ _ _ _ HM.out Try.underlying24 rfl (i24 _) ?_; simp only [Act.put, List.setIfInBounds_toArray, List.set_cons_zero, List.set_cons_succ]) | (refine wpList_load_row_g (by rfl) 24 _ rfl _ rfl _ _ _ _ HM.out Try.underlying24 rfl (i24 _) ?_; simp only [Act.put, List.setIfInBounds_toArray, List.set_cons_zero, List.set_cons_succ]) | (refine wpList_load_row rfl 24 _ rfl _ rfl _ _ _ _ HD.out Try.underlying24 rfl (i24 _) ?_; simp only [Act.put, List.setIfInBounds_toArray, List.set_cons_zero, List.set_cons_succ]) | (refine wpList_load_row_g (by rfl) 24 _ rfl _ rfl _ _ _ _ HD.out Try.underlying24 rfl (i24 _) ?_; simp only [Act.put, List.setIfInBounds_toArray, List.set_cons_zero, List.set_cons_succ]) | (refine wpList_load_row rfl 24 _ rfl _ rfl _ _ _ _ HN.out Try.underlying24 rfl (i24 _) ?_; simp only [Act.put, List.setIfInBounds_toArray, List.set_cons_zero, List.set_cons_succ]) | (refine wpList_load_row_g (by rfl) 24 _ rfl _ rfl _ _ _ _ HN.out Try.underlying24 rfl (i24 _) ?_; simp only [Act.put, List.setIfInBounds_toArray, List.set_cons_zero, List.set_cons_succ]))
        refine (has_c _ (subW_W64 ha b) x hx _).mono ?_
        rw [KD.out]
        rintro e w2 ⟨rfl, hg⟩
        have HA := Lib.hid (block_below' hg HA.out)
        have HB := Lib.hid (block_below' hg HB.out)
        have HC := Lib.hid (block_below' hg HC.out)
        have HU := Lib.hid (block_below' hg HU.out)
        have HM := Lib.hid (block_below' hg HM.out)
        have HD := Lib.hid (block_below' hg HD.out)
        have HN := Lib.hid (block_below' hg HN.out)
        have HE := Lib.hid (HE.out.trans hg)
        clear hg
        go_wp2_with (first | (refine wpList_load_row rfl 24 _ rfl _ rfl _ _ _ _ HU.out Try.underlying24 rfl (i24 _) ?_; simp only [Act.put, List.setIfInBounds_toArray, List.set_cons_zero, List.set_cons_succ]) | (refine wpList_load_row_g (by rfl) 24 _ rfl _ rfl _ _ _ _ HU.out Try.underlying24 rfl (i24 _) ?_; simp only [Act.put, List.setIfInBounds_toArray, List.set_cons_zero, List.set_cons_succ]) | (refine wpList_load_row rfl 24 _ rfl _ rfl _ _ _ _ HM.out Try.underlying24 rfl (i24 _) ?_; simp only [Act.put, List.setIfInBounds_toArray, List.set_cons_zero, List.set_cons_succ]) | (refine wpList_load_row_g (by rfl) 24 _ rfl _ rfl _ _ _ _ HM.out Try.underlying24 rfl (i24 _) ?_; simp only [Act.put, List.setIfInBounds_toArray, List.set_cons_zero, List.set_cons_succ]) | (refine wpList_load_row rfl 24 _ rfl _ rfl _ _ _ _ HD.out Try.underlying24 rfl (i24 _) ?_; simp only [Act.put, List.setIfInBounds_toArray, List.set_cons_zero, List.set_cons_succ]) | (refine wpList_load_row_g (by rfl) 24 _ rfl _ rfl _ _ _ _ HD.out Try.underlying24 rfl (i24 _) ?_; simp only [Act.put, List.setIfInBounds_toArray, List.set_cons_zero, List.set_cons_succ]) | (refine wpList_load_row rfl 24 _ rfl _ rfl _ _ _ _ HN.out Try.underlying24 rfl (i24 _) ?_; simp only [Act.put, List.setIfInBounds_toArray, List.set_cons_zero, List.set_cons_succ]) | (refine wpList_load_row_g (by rfl) 24 _ rfl _ rfl _ _ _ _ HN.out Try.underlying24 rfl (i24 _) ?_; simp only [Act.put, List.setIfInBounds_toArray, List.set_cons_zero, List.set_cons_succ]))
        refine (has_c _ (notW_W64 a) x hx _).mono ?_
        rw [KN.out]
        rintro e w2 ⟨rfl, hg⟩
        have HA := Lib.hid (block_below' hg HA.out)
        have HB := Lib.hid (block_below' hg HB.out)
        have HC := Lib.hid (block_below' hg HC.out)
        have HU := Lib.hid (block_below' hg HU.out)
        have HM := Lib.hid (block_below' hg HM.out)
        have HD := Lib.hid (block_below' hg HD.out)
        have HN := Lib.hid (block_below' hg HN.out)
        have HE := Lib.hid (HE.out.trans hg)
        clear hg
        go_wp2_with fail
        refine wp_region_grows 26 [IsV (.agg (AV (orW a b))), IsV (.agg (AV (b))), IsV (.agg (AV (a))), IsV (.agg (AV (orW b a))), IsV (.bool false), IsV (.bool false), IsV (.agg (AV (andW a b))), IsV (.agg (AV (b))), IsV (.agg (AV (a))), IsV (.agg (AV (andW b a))), IsV (.bool false), IsV (.bool false), IsV (.bool false), IsV (.agg (AV (notW a))), IsV (.agg (AV (notW (notW a)))), IsV (.agg (AV (a))), IsV (.bool false), IsV (.bool false), IsV (.bool false), IsV (.agg (AV (subW a b))), IsV (.agg (AV (a))), IsV (.agg (AV (b))), IsV (.agg (AV (notW b))), IsV (.agg (AV (andW a (notW b)))), IsV (.bool false), IsV (.bool false)] []
          [[], [], [], [(1, 74), (2, 75)], [(0, 73), (3, 76)], [(4, 77)], [(5, 78)], [(5, 78)], [(5, 78)], [(5, 78), (7, 80), (8, 81)], [(5, 78), (6, 79), (9, 82)], [(5, 78), (10, 83)], [(11, 84)], [(12, 85)], [(12, 85), (13, 86)], [(12, 85)], [(12, 85), (14, 87), (15, 88)], [(12, 85), (16, 89)], [(17, 90)], [(18, 91)], [(18, 91)], [(18, 91)], [(18, 91), (21, 94)], [(18, 91), (20, 93), (22, 95)], [(18, 91), (19, 92), (23, 96)], [(18, 91), (24, 97)]] [(0, 73), (1, 74), (2, 75), (3, 76), (4, 77), (5, 78), (6, 79), (7, 80), (8, 81), (9, 82), (10, 83), (11, 84), (12, 85), (13, 86), (14, 87), (15, 88), (16, 89), (17, 90), (18, 91), (19, 92), (20, 93), (21, 94), (22, 95), (23, 96), (24, 97), (25, 98)] (by kernel_rfl) (by kernel_rfl) rfl ?stable ⟨?o0, ?o1, ?o2, ?o3, ?o4, ?o5, ?o6, ?o7, ?o8, ?o9, ?o10, ?o11, ?o12, ?o13, ?o14, ?o15, ?o16, ?o17, ?o18, ?o19, ?o20, ?o21, ?o22, ?o23, ?o24, ?o25, trivial⟩ ?fin
        case stable => exact ⟨IsV.stable _, IsV.stable _, IsV.stable _, IsV.stable _, IsV.stable _, IsV.stable _, IsV.stable _, IsV.stable _, IsV.stable _, IsV.stable _, IsV.stable _, IsV.stable _, IsV.stable _, IsV.stable _, IsV.stable _, IsV.stable _, IsV.stable _, IsV.stable _, IsV.stable _, IsV.stable _, IsV.stable _, IsV.stable _, IsV.stable _, IsV.stable _, IsV.stable _, IsV.stable _, trivial⟩
        case o0 =>
          intro vals w' hg hd
          clear hd
          simp only [putS, List.foldl_nil]
          exact one_load_row (by rfl) _ _ rfl _ rfl _ _ _ _ (block_below' hg HU.out) Try.underlying24 rfl (i24 _) (isV_mk _ _)
        case o1 =>
          intro vals w' hg hd
          clear hd
          simp only [putS, List.foldl_nil]
          exact one_load_row (by rfl) _ _ rfl _ rfl _ _ _ _ (block_below' hg HB.out) Try.underlying24 rfl (i24 _) (isV_mk _ _)
        case o2 =>
          intro vals w' hg hd
          clear hd
          simp only [putS, List.foldl_nil]
          exact one_load_row (by rfl) _ _ rfl _ rfl _ _ _ _ (block_below' hg HA.out) Try.underlying24 rfl (i24 _) (isV_mk _ _)
        case o3 =>
          intro vals w' hg hd
          have h1 : vals 1 = .agg (AV (b)) := hd.1
          have h2 : vals 2 = .agg (AV (a)) := hd.2.1
          clear hd
          simp only [putS, List.foldl_nil, List.foldl_cons, Act.put, List.setIfInBounds_toArray, List.set_cons_zero, List.set_cons_succ, h1, h2]
          clear hg h1 h2
          go_simp
          exact (union_c b a hb ha w').mono fun e w2 ⟨he, hb⟩ => ⟨_, he, hb, isV_mk _ _⟩
        case o4 =>
          intro vals w' hg hd
          have h0 : vals 0 = .agg (AV (orW a b)) := hd.1
          have h3 : vals 3 = .agg (AV (orW b a)) := hd.2.1
          clear hd
          simp only [putS, List.foldl_nil, List.foldl_cons, Act.put, List.setIfInBounds_toArray, List.set_cons_zero, List.set_cons_succ, h0, h3]
          have heq0 := fun w => eq_AV_true E1.out w
          clear hg h0 h3
          go_simp
          exact isV_mk _ _
        case o5 =>
          intro vals w' hg hd
          have h4 : vals 4 = .bool false := hd.1
          clear hd
          simp only [putS, List.foldl_nil, List.foldl_cons, Act.put, List.setIfInBounds_toArray, List.set_cons_zero, List.set_cons_succ, h4]
          clear hg h4
          go_simp
          try go_bits
          exact isV_mk _ _
        case o6 =>
          intro vals w' hg hd
          have h5 : vals 5 = .bool false := hd.1
          clear hd
          simp only [putS, List.foldl_nil, List.foldl_cons, Act.put, List.setIfInBounds_toArray, List.set_cons_zero, List.set_cons_succ, h5]
          exact one_load_row (by rfl) _ _ rfl _ rfl _ _ _ _ (block_below' hg HM.out) Try.underlying24 rfl (i24 _) (isV_mk _ _)
        case o7 =>
          intro vals w' hg hd
          have h5 : vals 5 = .bool false := hd.1
          clear hd
          simp only [putS, List.foldl_nil, List.foldl_cons, Act.put, List.setIfInBounds_toArray, List.set_cons_zero, List.set_cons_succ, h5]
          exact one_load_row (by rfl) _ _ rfl _ rfl _ _ _ _ (block_below' hg HB.out) Try.underlying24 rfl (i24 _) (isV_mk _ _)
        case o8 =>
          intro vals w' hg hd
          have h5 : vals 5 = .bool false := hd.1
          clear hd
          simp only [putS, List.foldl_nil, List.foldl_cons, Act.put, List.setIfInBounds_toArray, List.set_cons_zero, List.set_cons_succ, h5]
          exact one_load_row (by rfl) _ _ rfl _ rfl _ _ _ _ (block_below' hg HA.out) Try.underlying24 rfl (i24 _) (isV_mk _ _)
        case o9 =>
          intro vals w' hg hd
          have h5 : vals 5 = .bool false := hd.1
          have h7 : vals 7 = .agg (AV (b)) := hd.2.1
          have h8 : vals 8 = .agg (AV (a)) := hd.2.2.1
          clear hd
          simp only [putS, List.foldl_nil, List.foldl_cons, Act.put, List.setIfInBounds_toArray, List.set_cons_zero, List.set_cons_succ, h5, h7, h8]
          clear hg h5 h7 h8
          go_simp
          exact (meet_c b a hb ha w').mono fun e w2 ⟨he, hb⟩ => ⟨_, he, hb, isV_mk _ _⟩
        case o10 =>
          intro vals w' hg hd
          have h5 : vals 5 = .bool false := hd.1
          have h6 : vals 6 = .agg (AV (andW a b)) := hd.2.1
          have h9 : vals 9 = .agg (AV (andW b a)) := hd.2.2.1
          clear hd
          simp only [putS, List.foldl_nil, List.foldl_cons, Act.put, List.setIfInBounds_toArray, List.set_cons_zero, List.set_cons_succ, h5, h6, h9]
          have heq0 := fun w => eq_AV_true E2.out w
          clear hg h5 h6 h9
          go_simp
          exact isV_mk _ _
        case o11 =>
          intro vals w' hg hd
          have h5 : vals 5 = .bool false := hd.1
          have h10 : vals 10 = .bool false := hd.2.1
          clear hd
          simp only [putS, List.foldl_nil, List.foldl_cons, Act.put, List.setIfInBounds_toArray, List.set_cons_zero, List.set_cons_succ, h5, h10]
          clear hg h5 h10
          go_simp
          try go_bits
          exact isV_mk _ _
        case o12 =>
          intro vals w' hg hd
          have h11 : vals 11 = .bool false := hd.1
          clear hd
          simp only [putS, List.foldl_nil, List.foldl_cons, Act.put, List.setIfInBounds_toArray, List.set_cons_zero, List.set_cons_succ, h11]
          clear hg h11
          go_simp
          try go_bits
          exact isV_mk _ _
        case o13 =>
          intro vals w' hg hd
          have h12 : vals 12 = .bool false := hd.1
          clear hd
          simp only [putS, List.foldl_nil, List.foldl_cons, Act.put, List.setIfInBounds_toArray, List.set_cons_zero, List.set_cons_succ, h12]
          exact one_load_row (by rfl) _ _ rfl _ rfl _ _ _ _ (block_below' hg HN.out) Try.underlying24 rfl (i24 _) (isV_mk _ _)
        case o14 =>
          intro vals w' hg hd
          have h12 : vals 12 = .bool false := hd.1
          have h13 : vals 13 = .agg (AV (notW a)) := hd.2.1
          clear hd
          simp only [putS, List.foldl_nil, List.foldl_cons, Act.put, List.setIfInBounds_toArray, List.set_cons_zero, List.set_cons_succ, h12, h13]
          clear hg h12 h13
          go_simp
          exact (not_c _ (notW_W64 a) w').mono fun e w2 ⟨he, hb⟩ => ⟨_, he, hb, isV_mk _ _⟩
        case o15 =>
          intro vals w' hg hd
          have h12 : vals 12 = .bool false := hd.1
          clear hd
          simp only [putS, List.foldl_nil, List.foldl_cons, Act.put, List.setIfInBounds_toArray, List.set_cons_zero, List.set_cons_succ, h12]
          exact one_load_row (by rfl) _ _ rfl _ rfl _ _ _ _ (block_below' hg HA.out) Try.underlying24 rfl (i24 _) (isV_mk _ _)
        case o16 =>
          intro vals w' hg hd
          have h12 : vals 12 = .bool false := hd.1
          have h14 : vals 14 = .agg (AV (notW (notW a))) := hd.2.1
          have h15 : vals 15 = .agg (AV (a)) := hd.2.2.1
          clear hd
          simp only [putS, List.foldl_nil, List.foldl_cons, Act.put, List.setIfInBounds_toArray, List.set_cons_zero, List.set_cons_succ, h12, h14, h15]
          have heq0 := fun w => eq_AV_true E3.out w
          clear hg h12 h14 h15
          go_simp
          exact isV_mk _ _
        case o17 =>
          intro vals w' hg hd
          have h12 : vals 12 = .bool false := hd.1
          have h16 : vals 16 = .bool false := hd.2.1
          clear hd
          simp only [putS, List.foldl_nil, List.foldl_cons, Act.put, List.setIfInBounds_toArray, List.set_cons_zero, List.set_cons_succ, h12, h16]
          clear hg h12 h16
          go_simp
          try go_bits
          exact isV_mk _ _
        case o18 =>
          intro vals w' hg hd
          have h17 : vals 17 = .bool false := hd.1
          clear hd
          simp only [putS, List.foldl_nil, List.foldl_cons, Act.put, List.setIfInBounds_toArray, List.set_cons_zero, List.set_cons_succ, h17]
          clear hg h17
          go_simp
          try go_bits
          exact isV_mk _ _
        case o19 =>
          intro vals w' hg hd
          have h18 : vals 18 = .bool false := hd.1
          clear hd
          simp only [putS, List.foldl_nil, List.foldl_cons, Act.put, List.setIfInBounds_toArray, List.set_cons_zero, List.set_cons_succ, h18]
          exact one_load_row (by rfl) _ _ rfl _ rfl _ _ _ _ (block_below' hg HD.out) Try.underlying24 rfl (i24 _) (isV_mk _ _)
        case o20 =>
          intro vals w' hg hd
          have h18 : vals 18 = .bool false := hd.1
          clear hd
          simp only [putS, List.foldl_nil, List.foldl_cons, Act.put, List.setIfInBounds_toArray, List.set_cons_zero, List.set_cons_succ, h18]
          exact one_load_row (by rfl) _ _ rfl _ rfl _ _ _ _ (block_below' hg HA.out) Try.underlying24 rfl (i24 _) (isV_mk _ _)
        case o21 =>
          intro vals w' hg hd
          have h18 : vals 18 = .bool false := hd.1
          clear hd
          simp only [putS, List.foldl_nil, List.foldl_cons, Act.put, List.setIfInBounds_toArray, List.set_cons_zero, List.set_cons_succ, h18]
          exact one_load_row (by rfl) _ _ rfl _ rfl _ _ _ _ (block_below' hg HB.out) Try.underlying24 rfl (i24 _) (isV_mk _ _)
        case o22 =>
          intro vals w' hg hd
          have h18 : vals 18 = .bool false := hd.1
          have h21 : vals 21 = .agg (AV (b)) := hd.2.1
          clear hd
          simp only [putS, List.foldl_nil, List.foldl_cons, Act.put, List.setIfInBounds_toArray, List.set_cons_zero, List.set_cons_succ, h18, h21]
          clear hg h18 h21
          go_simp
          exact (not_c b hb w').mono fun e w2 ⟨he, hb⟩ => ⟨_, he, hb, isV_mk _ _⟩
        case o23 =>
          intro vals w' hg hd
          have h18 : vals 18 = .bool false := hd.1
          have h20 : vals 20 = .agg (AV (a)) := hd.2.1
          have h22 : vals 22 = .agg (AV (notW b)) := hd.2.2.1
          clear hd
          simp only [putS, List.foldl_nil, List.foldl_cons, Act.put, List.setIfInBounds_toArray, List.set_cons_zero, List.set_cons_succ, h18, h20, h22]
          clear hg h18 h20 h22
          go_simp
          exact (meet_c a _ ha (notW_W64 b) w').mono fun e w2 ⟨he, hb⟩ => ⟨_, he, hb, isV_mk _ _⟩
        case o24 =>
          intro vals w' hg hd
          have h18 : vals 18 = .bool false := hd.1
          have h19 : vals 19 = .agg (AV (subW a b)) := hd.2.1
          have h23 : vals 23 = .agg (AV (andW a (notW b))) := hd.2.2.1
          clear hd
          simp only [putS, List.foldl_nil, List.foldl_cons, Act.put, List.setIfInBounds_toArray, List.set_cons_zero, List.set_cons_succ, h18, h19, h23]
          have heq0 := fun w => eq_AV_true E4.out w
          clear hg h18 h19 h23
          go_simp
          exact isV_mk _ _
        case o25 =>
          intro vals w' hg hd
          have h18 : vals 18 = .bool false := hd.1
          have h24 : vals 24 = .bool false := hd.2.1
          clear hd
          simp only [putS, List.foldl_nil, List.foldl_cons, Act.put, List.setIfInBounds_toArray, List.set_cons_zero, List.set_cons_succ, h18, h24]
          clear hg h18 h24
          go_simp
          try go_bits
          exact isV_mk _ _
        case fin =>
          intro vals w' hg hd hfresh
          have h0 : vals 0 = .agg (AV (orW a b)) := hd.1
          have h1 : vals 1 = .agg (AV (b)) := hd.2.1
          have h2 : vals 2 = .agg (AV (a)) := hd.2.2.1
          have h3 : vals 3 = .agg (AV (orW b a)) := hd.2.2.2.1
          have h4 : vals 4 = .bool false := hd.2.2.2.2.1
          have h5 : vals 5 = .bool false := hd.2.2.2.2.2.1
          have h6 : vals 6 = .agg (AV (andW a b)) := hd.2.2.2.2.2.2.1
          have h7 : vals 7 = .agg (AV (b)) := hd.2.2.2.2.2.2.2.1
          have h8 : vals 8 = .agg (AV (a)) := hd.2.2.2.2.2.2.2.2.1
          have h9 : vals 9 = .agg (AV (andW b a)) := hd.2.2.2.2.2.2.2.2.2.1
          have h10 : vals 10 = .bool false := hd.2.2.2.2.2.2.2.2.2.2.1
          have h11 : vals 11 = .bool false := hd.2.2.2.2.2.2.2.2.2.2.2.1
          have h12 : vals 12 = .bool false := hd.2.2.2.2.2.2.2.2.2.2.2.2.1
          have h13 : vals 13 = .agg (AV (notW a)) := hd.2.2.2.2.2.2.2.2.2.2.2.2.2.1
          have h14 : vals 14 = .agg (AV (notW (notW a))) := hd.2.2.2.2.2.2.2.2.2.2.2.2.2.2.1
          have h15 : vals 15 = .agg (AV (a)) := hd.2.2.2.2.2.2.2.2.2.2.2.2.2.2.2.1
          have h16 : vals 16 = .bool false := hd.2.2.2.2.2.2.2.2.2.2.2.2.2.2.2.2.1
          have h17 : vals 17 = .bool false := hd.2.2.2.2.2.2.2.2.2.2.2.2.2.2.2.2.2.1
          have h18 : vals 18 = .bool false := hd.2.2.2.2.2.2.2.2.2.2.2.2.2.2.2.2.2.2.1
          have h19 : vals 19 = .agg (AV (subW a b)) := hd.2.2.2.2.2.2.2.2.2.2.2.2.2.2.2.2.2.2.2.1
          have h20 : vals 20 = .agg (AV (a)) := hd.2.2.2.2.2.2.2.2.2.2.2.2.2.2.2.2.2.2.2.2.1
          have h21 : vals 21 = .agg (AV (b)) := hd.2.2.2.2.2.2.2.2.2.2.2.2.2.2.2.2.2.2.2.2.2.1
          have h22 : vals 22 = .agg (AV (notW b)) := hd.2.2.2.2.2.2.2.2.2.2.2.2.2.2.2.2.2.2.2.2.2.2.1
          have h23 : vals 23 = .agg (AV (andW a (notW b))) := hd.2.2.2.2.2.2.2.2.2.2.2.2.2.2.2.2.2.2.2.2.2.2.2.1
          have h24 : vals 24 = .bool false := hd.2.2.2.2.2.2.2.2.2.2.2.2.2.2.2.2.2.2.2.2.2.2.2.2.1
          have h25 : vals 25 = .bool false := hd.2.2.2.2.2.2.2.2.2.2.2.2.2.2.2.2.2.2.2.2.2.2.2.2.2.1
          clear hd
          simp only [putS, List.foldl_nil, List.foldl_cons, Act.put, List.setIfInBounds_toArray, List.set_cons_zero, List.set_cons_succ, List.drop_succ_cons, List.drop_zero, h0, h1, h2, h3, h4, h5, h6, h7, h8, h9, h10, h11, h12, h13, h14, h15, h16, h17, h18, h19, h20, h21, h22, h23, h24, h25]
          have HA := Lib.hid (block_below' hg HA.out)
          have HB := Lib.hid (block_below' hg HB.out)
          have HC := Lib.hid (block_below' hg HC.out)
          have HU := Lib.hid (block_below' hg HU.out)
          have HM := Lib.hid (block_below' hg HM.out)
          have HD := Lib.hid (block_below' hg HD.out)
          have HN := Lib.hid (block_below' hg HN.out)
          have HE := Lib.hid (HE.out.trans hg)
          clear hg h0 h1 h2 h3 h4 h5 h6 h7 h8 h9 h10 h11 h12 h13 h14 h15 h16 h17 h18 h19 h20 h21 h22 h23 h24 h25 hfresh
          go_wp2_with fail
          refine wp_region_grows 20 [IsV (.agg (AV (orW a b))), IsV (.agg (AV (notW (orW a b)))), IsV (.agg (AV (notW a))), IsV (.agg (AV (b))), IsV (.agg (AV (notW b))), IsV (.agg (AV (andW (notW a) (notW b)))), IsV (.bool false), IsV (.bool false), IsV (.agg (AV (a))), IsV (.agg (AV (b))), IsV (.agg (AV (c))), IsV (.agg (AV (orW b c))), IsV (.agg (AV (andW a (orW b c)))), IsV (.agg (AV (andW a b))), IsV (.agg (AV (a))), IsV (.agg (AV (c))), IsV (.agg (AV (andW a c))), IsV (.agg (AV (orW (andW a b) (andW a c)))), IsV (.bool false), IsV (.bool false)] []
            [[], [(0, 99)], [], [], [(3, 102)], [(2, 101), (4, 103)], [(1, 100), (5, 104)], [(6, 105)], [(7, 106)], [(7, 106)], [(7, 106)], [(7, 106), (9, 108), (10, 109)], [(7, 106), (8, 107), (11, 110)], [(7, 106)], [(7, 106)], [(7, 106)], [(7, 106), (14, 113), (15, 114)], [(7, 106), (13, 112), (16, 115)], [(7, 106), (12, 111), (17, 116)], [(7, 106), (18, 117)]] [(0, 99), (1, 100), (2, 101), (3, 102), (4, 103), (5, 104), (6, 105), (7, 106), (8, 107), (9, 108), (10, 109), (11, 110), (12, 111), (13, 112), (14, 113), (15, 114), (16, 115), (17, 116), (18, 117), (19, 118)] (by kernel_rfl) (by kernel_rfl) rfl ?stable ⟨?o0, ?o1, ?o2, ?o3, ?o4, ?o5, ?o6, ?o7, ?o8, ?o9, ?o10, ?o11, ?o12, ?o13, ?o14, ?o15, ?o16, ?o17, ?o18, ?o19, trivial⟩ ?fin
          case stable => exact ⟨IsV.stable _, IsV.stable _, IsV.stable _, IsV.stable _, IsV.stable _, IsV.stable _, IsV.stable _, IsV.stable _, IsV.stable _, IsV.stable _, IsV.stable _, IsV.stable _, IsV.stable _, IsV.stable _, IsV.stable _, IsV.stable _, IsV.stable _, IsV.stable _, IsV.stable _, IsV.stable _, trivial⟩
          case o0 =>
            intro vals w' hg hd
            clear hd
            simp only [putS, List.foldl_nil]
            exact one_load_row (by rfl) _ _ rfl _ rfl _ _ _ _ (block_below' hg HU.out) Try.underlying24 rfl (i24 _) (isV_mk _ _)
          case o1 =>
            intro vals w' hg hd
            have h0 : vals 0 = .agg (AV (orW a b)) := hd.1
            clear hd
            simp only [putS, List.foldl_nil, List.foldl_cons, Act.put, List.setIfInBounds_toArray, List.set_cons_zero, List.set_cons_succ, h0]
            clear hg h0
            go_simp
            exact (not_c _ (orW_W64 ha hb) w').mono fun e w2 ⟨he, hb⟩ => ⟨_, he, hb, isV_mk _ _⟩
          case o2 =>
            intro vals w' hg hd
            clear hd
            simp only [putS, List.foldl_nil]
            exact one_load_row (by rfl) _ _ rfl _ rfl _ _ _ _ (block_below' hg HN.out) Try.underlying24 rfl (i24 _) (isV_mk _ _)
          case o3 =>
            intro vals w' hg hd
            clear hd
            simp only [putS, List.foldl_nil]
            exact one_load_row (by rfl) _ _ rfl _ rfl _ _ _ _ (block_below' hg HB.out) Try.underlying24 rfl (i24 _) (isV_mk _ _)
          case o4 =>
            intro vals w' hg hd
            have h3 : vals 3 = .agg (AV (b)) := hd.1
            clear hd
            simp only [putS, List.foldl_nil, List.foldl_cons, Act.put, List.setIfInBounds_toArray, List.set_cons_zero, List.set_cons_succ, h3]
            clear hg h3
            go_simp
            exact (not_c b hb w').mono fun e w2 ⟨he, hb⟩ => ⟨_, he, hb, isV_mk _ _⟩
          case o5 =>
            intro vals w' hg hd
            have h2 : vals 2 = .agg (AV (notW a)) := hd.1
            have h4 : vals 4 = .agg (AV (notW b)) := hd.2.1
            clear hd
            simp only [putS, List.foldl_nil, List.foldl_cons, Act.put, List.setIfInBounds_toArray, List.set_cons_zero, List.set_cons_succ, h2, h4]
            clear hg h2 h4
            go_simp
            exact (meet_c _ _ (notW_W64 a) (notW_W64 b) w').mono fun e w2 ⟨he, hb⟩ => ⟨_, he, hb, isV_mk _ _⟩
          case o6 =>
            intro vals w' hg hd
            have h1 : vals 1 = .agg (AV (notW (orW a b))) := hd.1
            have h5 : vals 5 = .agg (AV (andW (notW a) (notW b))) := hd.2.1
            clear hd
            simp only [putS, List.foldl_nil, List.foldl_cons, Act.put, List.setIfInBounds_toArray, List.set_cons_zero, List.set_cons_succ, h1, h5]
            have heq0 := fun w => eq_AV_true E5.out w
            clear hg h1 h5
            go_simp
            exact isV_mk _ _
          case o7 =>
            intro vals w' hg hd
            have h6 : vals 6 = .bool false := hd.1
            clear hd
            simp only [putS, List.foldl_nil, List.foldl_cons, Act.put, List.setIfInBounds_toArray, List.set_cons_zero, List.set_cons_succ, h6]
            clear hg h6
            go_simp
            try go_bits
            exact isV_mk _ _
          case o8 =>
            intro vals w' hg hd
            have h7 : vals 7 = .bool false := hd.1
            clear hd
            simp only [putS, List.foldl_nil, List.foldl_cons, Act.put, List.setIfInBounds_toArray, List.set_cons_zero, List.set_cons_succ, h7]
            exact one_load_row (by rfl) _ _ rfl _ rfl _ _ _ _ (block_below' hg HA.out) Try.underlying24 rfl (i24 _) (isV_mk _ _)
          case o9 =>
            intro vals w' hg hd
            have h7 : vals 7 = .bool false := hd.1
            clear hd
            simp only [putS, List.foldl_nil, List.foldl_cons, Act.put, List.setIfInBounds_toArray, List.set_cons_zero, List.set_cons_succ, h7]
            exact one_load_row (by rfl) _ _ rfl _ rfl _ _ _ _ (block_below' hg HB.out) Try.underlying24 rfl (i24 _) (isV_mk _ _)
          case o10 =>
            intro vals w' hg hd
            have h7 : vals 7 = .bool false := hd.1
            clear hd
            simp only [putS, List.foldl_nil, List.foldl_cons, Act.put, List.setIfInBounds_toArray, List.set_cons_zero, List.set_cons_succ, h7]
            exact one_load_row (by rfl) _ _ rfl _ rfl _ _ _ _ (block_below' hg HC.out) Try.underlying24 rfl (i24 _) (isV_mk _ _)
          case o11 =>
            intro vals w' hg hd
            have h7 : vals 7 = .bool false := hd.1
            have h9 : vals 9 = .agg (AV (b)) := hd.2.1
            have h10 : vals 10 = .agg (AV (c)) := hd.2.2.1
            clear hd
            simp only [putS, List.foldl_nil, List.foldl_cons, Act.put, List.setIfInBounds_toArray, List.set_cons_zero, List.set_cons_succ, h7, h9, h10]
            clear hg h7 h9 h10
            go_simp
            exact (union_c b c hb hc w').mono fun e w2 ⟨he, hb⟩ => ⟨_, he, hb, isV_mk _ _⟩
          case o12 =>
            intro vals w' hg hd
            have h7 : vals 7 = .bool false := hd.1
            have h8 : vals 8 = .agg (AV (a)) := hd.2.1
            have h11 : vals 11 = .agg (AV (orW b c)) := hd.2.2.1
            clear hd
            simp only [putS, List.foldl_nil, List.foldl_cons, Act.put, List.setIfInBounds_toArray, List.set_cons_zero, List.set_cons_succ, h7, h8, h11]
            clear hg h7 h8 h11
            go_simp
            exact (meet_c a _ ha (orW_W64 hb hc) w').mono fun e w2 ⟨he, hb⟩ => ⟨_, he, hb, isV_mk _ _⟩
          case o13 =>
            intro vals w' hg hd
            have h7 : vals 7 = .bool false := hd.1
            clear hd
            simp only [putS, List.foldl_nil, List.foldl_cons, Act.put, List.setIfInBounds_toArray, List.set_cons_zero, List.set_cons_succ, h7]
            exact one_load_row (by rfl) _ _ rfl _ rfl _ _ _ _ (block_below' hg HM.out) Try.underlying24 rfl (i24 _) (isV_mk _ _)
          case o14 =>
            intro vals w' hg hd
            have h7 : vals 7 = .bool false := hd.1
            clear hd
            simp only [putS, List.foldl_nil, List.foldl_cons, Act.put, List.setIfInBounds_toArray, List.set_cons_zero, List.set_cons_succ, h7]
            exact one_load_row (by rfl) _ _ rfl _ rfl _ _ _ _ (block_below' hg HA.out) Try.underlying24 rfl (i24 _) (isV_mk _ _)
          case o15 =>
            intro vals w' hg hd
            have h7 : vals 7 = .bool false := hd.1
            clear hd
            simp only [putS, List.foldl_nil, List.foldl_cons, Act.put, List.setIfInBounds_toArray, List.set_cons_zero, List.set_cons_succ, h7]
            exact one_load_row (by rfl) _ _ rfl _ rfl _ _ _ _ (block_below' hg HC.out) Try.underlying24 rfl (i24 _) (isV_mk _ _)
          case o16 =>
            intro vals w' hg hd
            have h7 : vals 7 = .bool false := hd.1
            have h14 : vals 14 = .agg (AV (a)) := hd.2.1
            have h15 : vals 15 = .agg (AV (c)) := hd.2.2.1
            clear hd
            simp only [putS, List.foldl_nil, List.foldl_cons, Act.put, List.setIfInBounds_toArray, List.set_cons_zero, List.set_cons_succ, h7, h14, h15]
            clear hg h7 h14 h15
            go_simp
            exact (meet_c a c ha hc w').mono fun e w2 ⟨he, hb⟩ => ⟨_, he, hb, isV_mk _ _⟩
          case o17 =>
            intro vals w' hg hd
            have h7 : vals 7 = .bool false := hd.1
            have h13 : vals 13 = .agg (AV (andW a b)) := hd.2.1
            have h16 : vals 16 = .agg (AV (andW a c)) := hd.2.2.1
            clear hd
            simp only [putS, List.foldl_nil, List.foldl_cons, Act.put, List.setIfInBounds_toArray, List.set_cons_zero, List.set_cons_succ, h7, h13, h16]
            clear hg h7 h13 h16
            go_simp
            exact (union_c _ _ (andW_W64 ha b) (andW_W64 ha c) w').mono fun e w2 ⟨he, hb⟩ => ⟨_, he, hb, isV_mk _ _⟩
          case o18 =>
            intro vals w' hg hd
            have h7 : vals 7 = .bool false := hd.1
            have h12 : vals 12 = .agg (AV (andW a (orW b c))) := hd.2.1
            have h17 : vals 17 = .agg (AV (orW (andW a b) (andW a c))) := hd.2.2.1
            clear hd
            simp only [putS, List.foldl_nil, List.foldl_cons, Act.put, List.setIfInBounds_toArray, List.set_cons_zero, List.set_cons_succ, h7, h12, h17]
            have heq0 := fun w => eq_AV_true E6.out w
            clear hg h7 h12 h17
            go_simp
            exact isV_mk _ _
          case o19 =>
            intro vals w' hg hd
            have h7 : vals 7 = .bool false := hd.1
            have h18 : vals 18 = .bool false := hd.2.1
            clear hd
            simp only [putS, List.foldl_nil, List.foldl_cons, Act.put, List.setIfInBounds_toArray, List.set_cons_zero, List.set_cons_succ, h7, h18]
            clear hg h7 h18
            go_simp
            try go_bits
            exact isV_mk _ _
          case fin =>
            intro vals w' hg hd hfresh
            have h0 : vals 0 = .agg (AV (orW a b)) := hd.1
            have h1 : vals 1 = .agg (AV (notW (orW a b))) := hd.2.1
            have h2 : vals 2 = .agg (AV (notW a)) := hd.2.2.1
            have h3 : vals 3 = .agg (AV (b)) := hd.2.2.2.1
            have h4 : vals 4 = .agg (AV (notW b)) := hd.2.2.2.2.1
            have h5 : vals 5 = .agg (AV (andW (notW a) (notW b))) := hd.2.2.2.2.2.1
            have h6 : vals 6 = .bool false := hd.2.2.2.2.2.2.1
            have h7 : vals 7 = .bool false := hd.2.2.2.2.2.2.2.1
            have h8 : vals 8 = .agg (AV (a)) := hd.2.2.2.2.2.2.2.2.1
            have h9 : vals 9 = .agg (AV (b)) := hd.2.2.2.2.2.2.2.2.2.1
            have h10 : vals 10 = .agg (AV (c)) := hd.2.2.2.2.2.2.2.2.2.2.1
            have h11 : vals 11 = .agg (AV (orW b c)) := hd.2.2.2.2.2.2.2.2.2.2.2.1
            have h12 : vals 12 = .agg (AV (andW a (orW b c))) := hd.2.2.2.2.2.2.2.2.2.2.2.2.1
            have h13 : vals 13 = .agg (AV (andW a b)) := hd.2.2.2.2.2.2.2.2.2.2.2.2.2.1
            have h14 : vals 14 = .agg (AV (a)) := hd.2.2.2.2.2.2.2.2.2.2.2.2.2.2.1
            have h15 : vals 15 = .agg (AV (c)) := hd.2.2.2.2.2.2.2.2.2.2.2.2.2.2.2.1
            have h16 : vals 16 = .agg (AV (andW a c)) := hd.2.2.2.2.2.2.2.2.2.2.2.2.2.2.2.2.1
            have h17 : vals 17 = .agg (AV (orW (andW a b) (andW a c))) := hd.2.2.2.2.2.2.2.2.2.2.2.2.2.2.2.2.2.1
            have h18 : vals 18 = .bool false := hd.2.2.2.2.2.2.2.2.2.2.2.2.2.2.2.2.2.2.1
            have h19 : vals 19 = .bool false := hd.2.2.2.2.2.2.2.2.2.2.2.2.2.2.2.2.2.2.2.1
            clear hd
            simp only [putS, List.foldl_nil, List.foldl_cons, Act.put, List.setIfInBounds_toArray, List.set_cons_zero, List.set_cons_succ, List.drop_succ_cons, List.drop_zero, h0, h1, h2, h3, h4, h5, h6, h7, h8, h9, h10, h11, h12, h13, h14, h15, h16, h17, h18, h19]
            have HA := Lib.hid (block_below' hg HA.out)
            have HB := Lib.hid (block_below' hg HB.out)
            have HC := Lib.hid (block_below' hg HC.out)
            have HU := Lib.hid (block_below' hg HU.out)
            have HM := Lib.hid (block_below' hg HM.out)
            have HD := Lib.hid (block_below' hg HD.out)
            have HN := Lib.hid (block_below' hg HN.out)
            have HE := Lib.hid (HE.out.trans hg)
            clear hg h0 h1 h2 h3 h4 h5 h6 h7 h8 h9 h10 h11 h12 h13 h14 h15 h16 h17 h18 h19 hfresh
            go_wp2_with fail
            refine wp_region_grows 23 [IsV (.bool true), IsV (.bool true), IsV (.agg (AV (orW a b))), IsV (.int .i64 (nu : Nat)), IsV (.agg (AV (andW a b))), IsV (.int .i64 (nm : Nat)), IsV (.int .i64 (nu + nm : Nat)), IsV (.agg (AV (a))), IsV (.int .i64 (na : Nat)), IsV (.agg (AV (b))), IsV (.int .i64 (nb : Nat)), IsV (.int .i64 (na + nb : Nat)), IsV (.bool true), IsV (.bool true), IsV (.bool true), IsV (.agg (AV (a))), IsV (.int .i64 (na : Nat)), IsV (.agg (AV (notW a))), IsV (.int .i64 (nn : Nat)), IsV (.int .i64 (na + nn : Nat)), IsV (.bool true), IsV (.bool true), IsV (.bool true)] []
              [[], [(0, 119)], [(1, 120)], [(1, 120), (2, 121)], [(1, 120)], [(1, 120), (4, 123)], [(1, 120), (3, 122), (5, 124)], [(1, 120)], [(1, 120), (7, 126)], [(1, 120)], [(1, 120), (9, 128)], [(1, 120), (8, 127), (10, 129)], [(1, 120), (6, 125), (11, 130)], [(1, 120), (12, 131)], [(13, 132)], [(14, 133)], [(14, 133), (15, 134)], [(14, 133)], [(14, 133), (17, 136)], [(14, 133), (16, 135), (18, 137)], [(14, 133), (19, 138)], [(14, 133), (20, 139)], [(21, 140)]] [(0, 119), (1, 120), (2, 121), (3, 122), (4, 123), (5, 124), (6, 125), (7, 126), (8, 127), (9, 128), (10, 129), (11, 130), (12, 131), (13, 132), (14, 133), (15, 134), (16, 135), (17, 136), (18, 137), (19, 138), (20, 139), (21, 140), (22, 4)] (by kernel_rfl) (by kernel_rfl) rfl ?stable ⟨?o0, ?o1, ?o2, ?o3, ?o4, ?o5, ?o6, ?o7, ?o8, ?o9, ?o10, ?o11, ?o12, ?o13, ?o14, ?o15, ?o16, ?o17, ?o18, ?o19, ?o20, ?o21, ?o22, trivial⟩ ?fin
            case stable => exact ⟨IsV.stable _, IsV.stable _, IsV.stable _, IsV.stable _, IsV.stable _, IsV.stable _, IsV.stable _, IsV.stable _, IsV.stable _, IsV.stable _, IsV.stable _, IsV.stable _, IsV.stable _, IsV.stable _, IsV.stable _, IsV.stable _, IsV.stable _, IsV.stable _, IsV.stable _, IsV.stable _, IsV.stable _, IsV.stable _, IsV.stable _, trivial⟩
            case o0 =>
              intro vals w' hg hd
              clear hd
              simp only [putS, List.foldl_nil]
              clear hg
              go_simp
              exact (alive_c w').mono fun e w2 ⟨he, hb⟩ => ⟨_, he, hb, isV_mk _ _⟩
            case o1 =>
              intro vals w' hg hd
              have h0 : vals 0 = .bool true := hd.1
              clear hd
              simp only [putS, List.foldl_nil, List.foldl_cons, Act.put, List.setIfInBounds_toArray, List.set_cons_zero, List.set_cons_succ, h0]
              clear hg h0
              go_simp
              try go_bits
              exact isV_mk _ _
            case o2 =>
              intro vals w' hg hd
              have h1 : vals 1 = .bool true := hd.1
              clear hd
              simp only [putS, List.foldl_nil, List.foldl_cons, Act.put, List.setIfInBounds_toArray, List.set_cons_zero, List.set_cons_succ, h1]
              exact one_load_row (by rfl) _ _ rfl _ rfl _ _ _ _ (block_below' hg HU.out) Try.underlying24 rfl (i24 _) (isV_mk _ _)
            case o3 =>
              intro vals w' hg hd
              have h1 : vals 1 = .bool true := hd.1
              have h2 : vals 2 = .agg (AV (orW a b)) := hd.2.1
              clear hd
              simp only [putS, List.foldl_nil, List.foldl_cons, Act.put, List.setIfInBounds_toArray, List.set_cons_zero, List.set_cons_succ, h1, h2]
              clear hg h1 h2
              go_simp
              exact (len_c (orW a b) (orW_W64 ha hb) w').mono fun e w2 ⟨he, hb⟩ => ⟨_, he, hb, (by unfold IsV; rw [NU.out])⟩
            case o4 =>
              intro vals w' hg hd
              have h1 : vals 1 = .bool true := hd.1
              clear hd
              simp only [putS, List.foldl_nil, List.foldl_cons, Act.put, List.setIfInBounds_toArray, List.set_cons_zero, List.set_cons_succ, h1]
              exact one_load_row (by rfl) _ _ rfl _ rfl _ _ _ _ (block_below' hg HM.out) Try.underlying24 rfl (i24 _) (isV_mk _ _)
            case o5 =>
              intro vals w' hg hd
              have h1 : vals 1 = .bool true := hd.1
              have h4 : vals 4 = .agg (AV (andW a b)) := hd.2.1
              clear hd
              simp only [putS, List.foldl_nil, List.foldl_cons, Act.put, List.setIfInBounds_toArray, List.set_cons_zero, List.set_cons_succ, h1, h4]
              clear hg h1 h4
              go_simp
              exact (len_c (andW a b) (andW_W64 ha b) w').mono fun e w2 ⟨he, hb⟩ => ⟨_, he, hb, (by unfold IsV; rw [NM.out])⟩
            case o6 =>
              intro vals w' hg hd
              have h1 : vals 1 = .bool true := hd.1
              have h3 : vals 3 = .int .i64 (nu : Nat) := hd.2.1
              have h5 : vals 5 = .int .i64 (nm : Nat) := hd.2.2.1
              clear hd
              simp only [putS, List.foldl_nil, List.foldl_cons, Act.put, List.setIfInBounds_toArray, List.set_cons_zero, List.set_cons_succ, h1, h3, h5]
              clear hg h1 h3 h5
              go_simp
              try go_bits
              exact isV_mk _ _
            case o7 =>
              intro vals w' hg hd
              have h1 : vals 1 = .bool true := hd.1
              clear hd
              simp only [putS, List.foldl_nil, List.foldl_cons, Act.put, List.setIfInBounds_toArray, List.set_cons_zero, List.set_cons_succ, h1]
              exact one_load_row (by rfl) _ _ rfl _ rfl _ _ _ _ (block_below' hg HA.out) Try.underlying24 rfl (i24 _) (isV_mk _ _)
            case o8 =>
              intro vals w' hg hd
              have h1 : vals 1 = .bool true := hd.1
              have h7 : vals 7 = .agg (AV (a)) := hd.2.1
              clear hd
              simp only [putS, List.foldl_nil, List.foldl_cons, Act.put, List.setIfInBounds_toArray, List.set_cons_zero, List.set_cons_succ, h1, h7]
              clear hg h1 h7
              go_simp
              exact (len_c (a) (ha) w').mono fun e w2 ⟨he, hb⟩ => ⟨_, he, hb, (by unfold IsV; rw [NA.out])⟩
            case o9 =>
              intro vals w' hg hd
              have h1 : vals 1 = .bool true := hd.1
              clear hd
              simp only [putS, List.foldl_nil, List.foldl_cons, Act.put, List.setIfInBounds_toArray, List.set_cons_zero, List.set_cons_succ, h1]
              exact one_load_row (by rfl) _ _ rfl _ rfl _ _ _ _ (block_below' hg HB.out) Try.underlying24 rfl (i24 _) (isV_mk _ _)
            case o10 =>
              intro vals w' hg hd
              have h1 : vals 1 = .bool true := hd.1
              have h9 : vals 9 = .agg (AV (b)) := hd.2.1
              clear hd
              simp only [putS, List.foldl_nil, List.foldl_cons, Act.put, List.setIfInBounds_toArray, List.set_cons_zero, List.set_cons_succ, h1, h9]
              clear hg h1 h9
              go_simp
              exact (len_c (b) (hb) w').mono fun e w2 ⟨he, hb⟩ => ⟨_, he, hb, (by unfold IsV; rw [NB.out])⟩
            case o11 =>
              intro vals w' hg hd
              have h1 : vals 1 = .bool true := hd.1
              have h8 : vals 8 = .int .i64 (na : Nat) := hd.2.1
              have h10 : vals 10 = .int .i64 (nb : Nat) := hd.2.2.1
              clear hd
              simp only [putS, List.foldl_nil, List.foldl_cons, Act.put, List.setIfInBounds_toArray, List.set_cons_zero, List.set_cons_succ, h1, h8, h10]
              clear hg h1 h8 h10
              go_simp
              try go_bits
              exact isV_mk _ _
            case o12 =>
              intro vals w' hg hd
              have h1 : vals 1 = .bool true := hd.1
              have h6 : vals 6 = .int .i64 (nu + nm : Nat) := hd.2.1
              have h11 : vals 11 = .int .i64 (na + nb : Nat) := hd.2.2.1
              clear hd
              simp only [putS, List.foldl_nil, List.foldl_cons, Act.put, List.setIfInBounds_toArray, List.set_cons_zero, List.set_cons_succ, h1, h6, h11]
              have hs1 := NS1.out
              clear hg h1 h6 h11
              go_simp
              exact congrArg Value.bool (by first | (simp; omega) | simp)
            case o13 =>
              intro vals w' hg hd
              have h1 : vals 1 = .bool true := hd.1
              have h12 : vals 12 = .bool true := hd.2.1
              clear hd
              simp only [putS, List.foldl_nil, List.foldl_cons, Act.put, List.setIfInBounds_toArray, List.set_cons_zero, List.set_cons_succ, h1, h12]
              clear hg h1 h12
              go_simp
              try go_bits
              exact isV_mk _ _
            case o14 =>
              intro vals w' hg hd
              have h13 : vals 13 = .bool true := hd.1
              clear hd
              simp only [putS, List.foldl_nil, List.foldl_cons, Act.put, List.setIfInBounds_toArray, List.set_cons_zero, List.set_cons_succ, h13]
              clear hg h13
              go_simp
              try go_bits
              exact isV_mk _ _
            case o15 =>
              intro vals w' hg hd
              have h14 : vals 14 = .bool true := hd.1
              clear hd
              simp only [putS, List.foldl_nil, List.foldl_cons, Act.put, List.setIfInBounds_toArray, List.set_cons_zero, List.set_cons_succ, h14]
              exact one_load_row (by rfl) _ _ rfl _ rfl _ _ _ _ (block_below' hg HA.out) Try.underlying24 rfl (i24 _) (isV_mk _ _)
            case o16 =>
              intro vals w' hg hd
              have h14 : vals 14 = .bool true := hd.1
              have h15 : vals 15 = .agg (AV (a)) := hd.2.1
              clear hd
              simp only [putS, List.foldl_nil, List.foldl_cons, Act.put, List.setIfInBounds_toArray, List.set_cons_zero, List.set_cons_succ, h14, h15]
              clear hg h14 h15
              go_simp
              exact (len_c (a) (ha) w').mono fun e w2 ⟨he, hb⟩ => ⟨_, he, hb, (by unfold IsV; rw [NA.out])⟩
            case o17 =>
              intro vals w' hg hd
              have h14 : vals 14 = .bool true := hd.1
              clear hd
              simp only [putS, List.foldl_nil, List.foldl_cons, Act.put, List.setIfInBounds_toArray, List.set_cons_zero, List.set_cons_succ, h14]
              exact one_load_row (by rfl) _ _ rfl _ rfl _ _ _ _ (block_below' hg HN.out) Try.underlying24 rfl (i24 _) (isV_mk _ _)
            case o18 =>
              intro vals w' hg hd
              have h14 : vals 14 = .bool true := hd.1
              have h17 : vals 17 = .agg (AV (notW a)) := hd.2.1
              clear hd
              simp only [putS, List.foldl_nil, List.foldl_cons, Act.put, List.setIfInBounds_toArray, List.set_cons_zero, List.set_cons_succ, h14, h17]
              clear hg h14 h17
              go_simp
              exact (len_c (notW a) (notW_W64 a) w').mono fun e w2 ⟨he, hb⟩ => ⟨_, he, hb, (by unfold IsV; rw [NN.out])⟩
            case o19 =>
              intro vals w' hg hd
              have h14 : vals 14 = .bool true := hd.1
              have h16 : vals 16 = .int .i64 (na : Nat) := hd.2.1
              have h18 : vals 18 = .int .i64 (nn : Nat) := hd.2.2.1
              clear hd
              simp only [putS, List.foldl_nil, List.foldl_cons, Act.put, List.setIfInBounds_toArray, List.set_cons_zero, List.set_cons_succ, h14, h16, h18]
              clear hg h14 h16 h18
              go_simp
              try go_bits
              exact isV_mk _ _
            case o20 =>
              intro vals w' hg hd
              have h14 : vals 14 = .bool true := hd.1
              have h19 : vals 19 = .int .i64 (na + nn : Nat) := hd.2.1
              clear hd
              simp only [putS, List.foldl_nil, List.foldl_cons, Act.put, List.setIfInBounds_toArray, List.set_cons_zero, List.set_cons_succ, h14, h19]
              have hs1 := NS2.out
              clear hg h14 h19
              go_simp
              exact congrArg Value.bool (by first | (simp; omega) | simp)
            case o21 =>
              intro vals w' hg hd
              have h14 : vals 14 = .bool true := hd.1
              have h20 : vals 20 = .bool true := hd.2.1
              clear hd
              simp only [putS, List.foldl_nil, List.foldl_cons, Act.put, List.setIfInBounds_toArray, List.set_cons_zero, List.set_cons_succ, h14, h20]
              clear hg h14 h20
              go_simp
              try go_bits
              exact isV_mk _ _
            case o22 =>
              intro vals w' hg hd
              have h21 : vals 21 = .bool true := hd.1
              clear hd
              simp only [putS, List.foldl_nil, List.foldl_cons, Act.put, List.setIfInBounds_toArray, List.set_cons_zero, List.set_cons_succ, h21]
              clear hg h21
              go_simp
              try go_bits
              exact isV_mk _ _
            case fin =>
              intro vals w' hg hd hfresh
              have h0 : vals 0 = .bool true := hd.1
              have h1 : vals 1 = .bool true := hd.2.1
              have h2 : vals 2 = .agg (AV (orW a b)) := hd.2.2.1
              have h3 : vals 3 = .int .i64 (nu : Nat) := hd.2.2.2.1
              have h4 : vals 4 = .agg (AV (andW a b)) := hd.2.2.2.2.1
              have h5 : vals 5 = .int .i64 (nm : Nat) := hd.2.2.2.2.2.1
              have h6 : vals 6 = .int .i64 (nu + nm : Nat) := hd.2.2.2.2.2.2.1
              have h7 : vals 7 = .agg (AV (a)) := hd.2.2.2.2.2.2.2.1
              have h8 : vals 8 = .int .i64 (na : Nat) := hd.2.2.2.2.2.2.2.2.1
              have h9 : vals 9 = .agg (AV (b)) := hd.2.2.2.2.2.2.2.2.2.1
              have h10 : vals 10 = .int .i64 (nb : Nat) := hd.2.2.2.2.2.2.2.2.2.2.1
              have h11 : vals 11 = .int .i64 (na + nb : Nat) := hd.2.2.2.2.2.2.2.2.2.2.2.1
              have h12 : vals 12 = .bool true := hd.2.2.2.2.2.2.2.2.2.2.2.2.1
              have h13 : vals 13 = .bool true := hd.2.2.2.2.2.2.2.2.2.2.2.2.2.1
              have h14 : vals 14 = .bool true := hd.2.2.2.2.2.2.2.2.2.2.2.2.2.2.1
              have h15 : vals 15 = .agg (AV (a)) := hd.2.2.2.2.2.2.2.2.2.2.2.2.2.2.2.1
              have h16 : vals 16 = .int .i64 (na : Nat) := hd.2.2.2.2.2.2.2.2.2.2.2.2.2.2.2.2.1
              have h17 : vals 17 = .agg (AV (notW a)) := hd.2.2.2.2.2.2.2.2.2.2.2.2.2.2.2.2.2.1
              have h18 : vals 18 = .int .i64 (nn : Nat) := hd.2.2.2.2.2.2.2.2.2.2.2.2.2.2.2.2.2.2.1
              have h19 : vals 19 = .int .i64 (na + nn : Nat) := hd.2.2.2.2.2.2.2.2.2.2.2.2.2.2.2.2.2.2.2.1
              have h20 : vals 20 = .bool true := hd.2.2.2.2.2.2.2.2.2.2.2.2.2.2.2.2.2.2.2.2.1
              have h21 : vals 21 = .bool true := hd.2.2.2.2.2.2.2.2.2.2.2.2.2.2.2.2.2.2.2.2.2.1
              have h22 : vals 22 = .bool true := hd.2.2.2.2.2.2.2.2.2.2.2.2.2.2.2.2.2.2.2.2.2.2.1
              clear hd
              simp only [putS, List.foldl_nil, List.foldl_cons, Act.put, List.setIfInBounds_toArray, List.set_cons_zero, List.set_cons_succ, List.drop_succ_cons, List.drop_zero, h0, h1, h2, h3, h4, h5, h6, h7, h8, h9, h10, h11, h12, h13, h14, h15, h16, h17, h18, h19, h20, h21, h22]
              have HEnd := Lib.hid (HE.out.trans hg)
              clear hg h0 h1 h2 h3 h4 h5 h6 h7 h8 h9 h10 h11 h12 h13 h14 h15 h16 h17 h18 h19 h20 h21 h22 hfresh
              go_wp2
              go_ret
              exact ⟨rfl, HEnd.out⟩
set_option maxHeartbeats 16000000
theorem algebra_ff (a b c : Nat → Nat) (ha : W64 a) (hb : W64 b) (hc : W64 c) (x : Nat) (hx : x < 256) (w : World) (hp : bit a x = false) (hq : bit b x = false) :
    Calls Try.prog 8 #[.agg (ABC a b c), .int .u8 x] w fun e w' => e = .returned (.bool true) ∧ Below w.heap.size w w' := by
  have KU : Hid (bit (orW a b) x = (false || false)) := Lib.hid (by rw [bit_orW, hp, hq])
  have KM : Hid (bit (andW a b) x = (false && false)) := Lib.hid (by rw [bit_andW, hp, hq])
  have KD : Hid (bit (subW a b) x = (false && !false)) := Lib.hid (by rw [bit_subW hb, hp, hq])
  have KN : Hid (bit (notW a) x = !false) := Lib.hid (by rw [bit_notW ha, hp])
  have HP := Lib.hid hp
  have HQ := Lib.hid hq
  clear hp hq
  have E1 : Hid (eqS (orW a b) (orW b a) = true) := Lib.hid (eqS_of (orW_W64 ha hb) (orW_W64 hb ha) fun j _ => by rw [bit_orW, bit_orW, Bool.or_comm])
  have E2 : Hid (eqS (andW a b) (andW b a) = true) := Lib.hid (eqS_of (andW_W64 ha b) (andW_W64 hb a) fun j _ => by rw [bit_andW, bit_andW, Bool.and_comm])
  have E3 : Hid (eqS (notW (notW a)) a = true) := Lib.hid (eqS_of (notW_W64 _) ha fun j _ => by rw [bit_notW (notW_W64 a), bit_notW ha, Bool.not_not])
  have E4 : Hid (eqS (subW a b) (andW a (notW b)) = true) := Lib.hid (eqS_of (subW_W64 ha b) (andW_W64 ha _) fun j _ => by rw [bit_subW hb, bit_andW, bit_notW hb])
  have E5 : Hid (eqS (notW (orW a b)) (andW (notW a) (notW b)) = true) := Lib.hid (eqS_of (notW_W64 _) (andW_W64 (notW_W64 a) _) fun j _ => by rw [bit_notW (orW_W64 ha hb), bit_andW, bit_notW ha, bit_notW hb, bit_orW, Bool.not_or])
  have E6 : Hid (eqS (andW a (orW b c)) (orW (andW a b) (andW a c)) = true) := Lib.hid (eqS_of (andW_W64 ha _) (orW_W64 (andW_W64 ha b) (andW_W64 ha c)) fun j _ => by rw [bit_andW, bit_orW, bit_orW, bit_andW, bit_andW, Bool.and_or_distrib_left])
  obtain ⟨nu, hnu⟩ : ∃ n, n = cnt (bit (orW a b)) 256 := ⟨_, rfl⟩
  obtain ⟨nm, hnm⟩ : ∃ n, n = cnt (bit (andW a b)) 256 := ⟨_, rfl⟩
  obtain ⟨na, hna⟩ : ∃ n, n = cnt (bit a) 256 := ⟨_, rfl⟩
  obtain ⟨nb, hnb⟩ : ∃ n, n = cnt (bit b) 256 := ⟨_, rfl⟩
  obtain ⟨nn, hnn⟩ : ∃ n, n = cnt (bit (notW a)) 256 := ⟨_, rfl⟩
  have NS1 : Hid (nu + nm = na + nb) := Lib.hid (by
    rw [hnu, hnm, hna, hnb, cnt_congr 256 (fun j _ => bit_orW a b j), cnt_congr 256 (fun j _ => bit_andW a b j)]; exact cnt_or_and _ _ _)
  have NS2 : Hid (na + nn = 256) := Lib.hid (by rw [hna, hnn, cnt_congr 256 (fun j _ => bit_notW ha j)]; exact cnt_not _ _)
  have u1 : nu ≤ 256 := hnu ▸ cnt_le _ _
  have u2 : nm ≤ 256 := hnm ▸ cnt_le _ _
  have u3 : na ≤ 256 := hna ▸ cnt_le _ _
  have u4 : nb ≤ 256 := hnb ▸ cnt_le _ _
  have u5 : nn ≤ 256 := hnn ▸ cnt_le _ _
  have NU := Lib.hid hnu; have NM := Lib.hid hnm; have NA := Lib.hid hna; have NB := Lib.hid hnb; have NN := Lib.hid hnn
  clear hnu hnm hna hnb hnn
  simp only [Bool.or_false, Bool.or_true, Bool.and_false, Bool.and_true, Bool.not_true, Bool.not_false] at KU KM KD KN
  go_enter Try.func8, Try.ntmps8
  go_wp2_with fail
  obtain ⟨B0, hB0⟩ : ∃ B0, B0 = w.heap.size := ⟨_, rfl⟩
  have H0 := Lib.hid (heap_at w (.cells (ABC a b c) 45) B0 hB0)
  have HE : Hid (Grew w (w.alloc (.cells (ABC a b c) 45))) := Lib.hid (grew_alloc _ _)
  generalize w.alloc (.cells (ABC a b c) 45) = w1 at H0 HE ⊢
  rw [← hB0]
  clear hB0
  refine wp_region_vars [some (.pointer (some ⟨B0, 0, none⟩)), some (.agg (AV a)), some (.pointer (some ⟨B0, 4, none⟩)), some (.agg (AV b)), some (.pointer (some ⟨B0, 8, none⟩)), some (.agg (AV c)), none, none, none, none, none, none]
    [⟨6, 9, 1, 5, 15, (AV fun _ => 0), (AV a), 24⟩, ⟨7, 10, 3, 6, 17, (AV fun _ => 0), (AV b), 24⟩, ⟨8, 11, 5, 7, 19, (AV fun _ => 0), (AV c), 24⟩] [(6, 9), (7, 10), (8, 11)] [[], [(0, 14)], [], [(2, 16)], [], [(4, 18)], [], [], [], [(1, 15), (6, 5)], [(3, 17), (7, 6)], [(5, 19), (8, 7)]] [(0, 14), (1, 15), (2, 16), (3, 17), (4, 18), (5, 19), (6, 5), (7, 6), (8, 7)] [true, true, true, true, true, true, false, false, false, false, false, false] (by kernel_rfl) (by kernel_rfl) rfl rfl ?vars ⟨?o0, ?o1, ?o2, ?o3, ?o4, ?o5, trivial⟩ ?fin
  case vars => exact ⟨⟨⟨_, rfl, rfl, rfl, rfl⟩, ⟨_, rfl, rfl, rfl, rfl⟩, ⟨_, rfl, rfl⟩, rfl, by simp, by simp, z24, i24 _, by rw [AV_size, AV_size], AV_one _, rfl, rfl⟩, ⟨⟨_, rfl, rfl, rfl, rfl⟩, ⟨_, rfl, rfl, rfl, rfl⟩, ⟨_, rfl, rfl⟩, rfl, by simp, by simp, z24, i24 _, by rw [AV_size, AV_size], AV_one _, rfl, rfl⟩, ⟨⟨_, rfl, rfl, rfl, rfl⟩, ⟨_, rfl, rfl, rfl, rfl⟩, ⟨_, rfl, rfl⟩, rfl, by simp, by simp, z24, i24 _, by rw [AV_size, AV_size], AV_one _, rfl, rfl⟩, trivial⟩
  case o0 =>
    intro vals w' hg hd
    clear hd
    simp only [putS, List.foldl_nil]
    clear hg
    go_simp
    try go_bits
    exact isV_mk _ _
  case o1 =>
    intro vals w' hg hd
    have h0 : vals 0 = .pointer (some ⟨B0, 0, none⟩) := hd.1
    clear hd
    simp only [putS, List.foldl_nil, List.foldl_cons, Act.put, List.setIfInBounds_toArray, List.set_cons_zero, List.set_cons_succ, h0]
    exact one_load_mid (by rfl) 24 _ rfl B0 0 rfl (AV a).toList _ (fun j v hv => abc_at a b c (block_below' hg H0.out) 0 _ rfl j v hv) Try.underlying24 rfl (by rw [Array.length_toList]; exact i24 _) (by rw [Array.toArray_toList]; exact isV_mk _ _)
  case o2 =>
    intro vals w' hg hd
    clear hd
    simp only [putS, List.foldl_nil]
    clear hg
    go_simp
    try go_bits
    exact isV_mk _ _
  case o3 =>
    intro vals w' hg hd
    have h2 : vals 2 = .pointer (some ⟨B0, 4, none⟩) := hd.1
    clear hd
    simp only [putS, List.foldl_nil, List.foldl_cons, Act.put, List.setIfInBounds_toArray, List.set_cons_zero, List.set_cons_succ, h2]
    exact one_load_mid (by rfl) 24 _ rfl B0 4 rfl (AV b).toList _ (fun j v hv => abc_at a b c (block_below' hg H0.out) 1 _ rfl j v hv) Try.underlying24 rfl (by rw [Array.length_toList]; exact i24 _) (by rw [Array.toArray_toList]; exact isV_mk _ _)
  case o4 =>
    intro vals w' hg hd
    clear hd
    simp only [putS, List.foldl_nil]
    clear hg
    go_simp
    try go_bits
    exact isV_mk _ _
  case o5 =>
    intro vals w' hg hd
    have h4 : vals 4 = .pointer (some ⟨B0, 8, none⟩) := hd.1
    clear hd
    simp only [putS, List.foldl_nil, List.foldl_cons, Act.put, List.setIfInBounds_toArray, List.set_cons_zero, List.set_cons_succ, h4]
    exact one_load_mid (by rfl) 24 _ rfl B0 8 rfl (AV c).toList _ (fun j v hv => abc_at a b c (block_below' hg H0.out) 2 _ rfl j v hv) Try.underlying24 rfl (by rw [Array.length_toList]; exact i24 _) (by rw [Array.toArray_toList]; exact isV_mk _ _)
  case fin =>
    intro vals w' hg hd hvs hdist
    have h0 : vals 0 = .pointer (some ⟨B0, 0, none⟩) := hd.1
    have h1 : vals 1 = .agg (AV a) := hd.2.1
    have h2 : vals 2 = .pointer (some ⟨B0, 4, none⟩) := hd.2.2.1
    have h3 : vals 3 = .agg (AV b) := hd.2.2.2.1
    have h4 : vals 4 = .pointer (some ⟨B0, 8, none⟩) := hd.2.2.2.2.1
    have h5 : vals 5 = .agg (AV c) := hd.2.2.2.2.2.1
    clear hd
    obtain ⟨⟨b6, h6, hn6, hb6⟩, ⟨b7, h7, hn7, hb7⟩, ⟨b8, h8, hn8, hb8⟩, _⟩ := hvs
    simp only [putS, List.foldl_nil, List.foldl_cons, Act.put, List.setIfInBounds_toArray, List.set_cons_zero, List.set_cons_succ, h0, h1, h2, h3, h4, h5, h6, h7, h8]
    have HA := Lib.hid hb6; have HB := Lib.hid hb7; have HC := Lib.hid hb8
    have HE := Lib.hid (HE.out.trans hg)
    clear hg h0 h1 h2 h3 h4 h5 h6 h7 h8 hdist hb6 hb7 hb8 hn6 hn7 hn8 H0
    go_wp2_with fail
    refine wp_region_grows 8 [IsV (.agg (AV a)), IsV (.int .u8 x), IsV (.bool false), IsV (.agg (AV b)), IsV (.int .u8 x), IsV (.bool false), IsV (.bool false), IsV (.bool false)] []
      [[], [], [(0, 20), (1, 21)], [], [], [(3, 23), (4, 24)], [(2, 22)], [(5, 25)]] [(0, 20), (1, 21), (2, 22), (3, 23), (4, 24), (5, 25), (6, 8), (7, 9)] (by kernel_rfl) (by kernel_rfl) rfl ?stable ⟨?o0, ?o1, ?o2, ?o3, ?o4, ?o5, ?o6, ?o7, trivial⟩ ?fin
    case stable => exact ⟨IsV.stable _, IsV.stable _, IsV.stable _, IsV.stable _, IsV.stable _, IsV.stable _, IsV.stable _, IsV.stable _, trivial⟩
    case o0 =>
      intro vals w' hg hd
      clear hd
      simp only [putS, List.foldl_nil]
      exact one_load_row (by rfl) _ _ rfl _ rfl _ _ _ _ (block_below' hg HA.out) Try.underlying24 rfl (i24 _) (isV_mk _ _)
    case o1 =>
      intro vals w' hg hd
      clear hd
      simp only [putS, List.foldl_nil]
      clear hg
      go_simp
      try go_bits
      exact isV_mk _ _
    case o2 =>
      intro vals w' hg hd
      have h0 : vals 0 = .agg (AV a) := hd.1
      have h1 : vals 1 = .int .u8 x := hd.2.1
      clear hd
      simp only [putS, List.foldl_nil, List.foldl_cons, Act.put, List.setIfInBounds_toArray, List.set_cons_zero, List.set_cons_succ, h0, h1]
      clear hg h0 h1
      go_simp
      exact (has_c a ha x hx w').mono fun e w2 ⟨he, hb⟩ => ⟨_, he, hb, congrArg Value.bool HP.out⟩
    case o3 =>
      intro vals w' hg hd
      clear hd
      simp only [putS, List.foldl_nil]
      exact one_load_row (by rfl) _ _ rfl _ rfl _ _ _ _ (block_below' hg HB.out) Try.underlying24 rfl (i24 _) (isV_mk _ _)
    case o4 =>
      intro vals w' hg hd
      clear hd
      simp only [putS, List.foldl_nil]
      clear hg
      go_simp
      try go_bits
      exact isV_mk _ _
    case o5 =>
      intro vals w' hg hd
      have h3 : vals 3 = .agg (AV b) := hd.1
      have h4 : vals 4 = .int .u8 x := hd.2.1
      clear hd
      simp only [putS, List.foldl_nil, List.foldl_cons, Act.put, List.setIfInBounds_toArray, List.set_cons_zero, List.set_cons_succ, h3, h4]
      clear hg h3 h4
      go_simp
      exact (has_c b hb x hx w').mono fun e w2 ⟨he, hb⟩ => ⟨_, he, hb, congrArg Value.bool HQ.out⟩
    case o6 =>
      intro vals w' hg hd
      have h2 : vals 2 = .bool false := hd.1
      clear hd
      simp only [putS, List.foldl_nil, List.foldl_cons, Act.put, List.setIfInBounds_toArray, List.set_cons_zero, List.set_cons_succ, h2]
      clear hg h2
      go_simp
      try go_bits
      exact isV_mk _ _
    case o7 =>
      intro vals w' hg hd
      have h5 : vals 5 = .bool false := hd.1
      clear hd
      simp only [putS, List.foldl_nil, List.foldl_cons, Act.put, List.setIfInBounds_toArray, List.set_cons_zero, List.set_cons_succ, h5]
      clear hg h5
      go_simp
      try go_bits
      exact isV_mk _ _
    case fin =>
      intro vals w' hg hd hfresh
      have h0 : vals 0 = .agg (AV a) := hd.1
      have h1 : vals 1 = .int .u8 x := hd.2.1
      have h2 : vals 2 = .bool false := hd.2.2.1
      have h3 : vals 3 = .agg (AV b) := hd.2.2.2.1
      have h4 : vals 4 = .int .u8 x := hd.2.2.2.2.1
      have h5 : vals 5 = .bool false := hd.2.2.2.2.2.1
      have h6 : vals 6 = .bool false := hd.2.2.2.2.2.2.1
      have h7 : vals 7 = .bool false := hd.2.2.2.2.2.2.2.1
      clear hd
      simp only [putS, List.foldl_nil, List.foldl_cons, Act.put, List.setIfInBounds_toArray, List.set_cons_zero, List.set_cons_succ, List.drop_succ_cons, List.drop_zero, h0, h1, h2, h3, h4, h5, h6, h7]
      have HA := Lib.hid (block_below' hg HA.out)
      have HB := Lib.hid (block_below' hg HB.out)
      have HC := Lib.hid (block_below' hg HC.out)
      have HE := Lib.hid (HE.out.trans hg)
      clear hg h0 h1 h2 h3 h4 h5 h6 h7 hfresh
      go_wp2_with fail
      refine wp_region_vars [some (.agg (AV a)), some (.agg (AV b)), some (.agg (AV (orW a b))), some (.agg (AV a)), some (.agg (AV b)), some (.agg (AV (andW a b))), some (.agg (AV a)), some (.agg (AV b)), some (.agg (AV (subW a b))), some (.agg (AV a)), some (.agg (AV (notW a))), none, none, none, none, none, none, none, none]
        [⟨11, 15, 2, 10, 28, (AV fun _ => 0), (AV (orW a b)), 24⟩, ⟨12, 16, 5, 11, 31, (AV fun _ => 0), (AV (andW a b)), 24⟩, ⟨13, 17, 8, 12, 34, (AV fun _ => 0), (AV (subW a b)), 24⟩, ⟨14, 18, 10, 13, 36, (AV fun _ => 0), (AV (notW a)), 24⟩] [(11, 15), (12, 16), (13, 17), (14, 18)] [[], [], [(0, 26), (1, 27)], [], [], [(3, 29), (4, 30)], [], [], [(6, 32), (7, 33)], [], [(9, 35)], [], [], [], [], [(2, 28), (11, 10)], [(5, 31), (12, 11)], [(8, 34), (13, 12)], [(10, 36), (14, 13)]] [(0, 26), (1, 27), (2, 28), (3, 29), (4, 30), (5, 31), (6, 32), (7, 33), (8, 34), (9, 35), (10, 36), (11, 10), (12, 11), (13, 12), (14, 13)] [true, true, true, true, true, true, true, true, true, true, true, false, false, false, false, false, false, false, false] (by kernel_rfl) (by kernel_rfl) rfl rfl ?vars ⟨?o0, ?o1, ?o2, ?o3, ?o4, ?o5, ?o6, ?o7, ?o8, ?o9, ?o10, trivial⟩ ?fin
      case vars => exact ⟨⟨⟨_, rfl, rfl, rfl, rfl⟩, ⟨_, rfl, rfl, rfl, rfl⟩, ⟨_, rfl, rfl⟩, rfl, by simp, by simp, z24, i24 _, by rw [AV_size, AV_size], AV_one _, rfl, rfl⟩, ⟨⟨_, rfl, rfl, rfl, rfl⟩, ⟨_, rfl, rfl, rfl, rfl⟩, ⟨_, rfl, rfl⟩, rfl, by simp, by simp, z24, i24 _, by rw [AV_size, AV_size], AV_one _, rfl, rfl⟩, ⟨⟨_, rfl, rfl, rfl, rfl⟩, ⟨_, rfl, rfl, rfl, rfl⟩, ⟨_, rfl, rfl⟩, rfl, by simp, by simp, z24, i24 _, by rw [AV_size, AV_size], AV_one _, rfl, rfl⟩, ⟨⟨_, rfl, rfl, rfl, rfl⟩, ⟨_, rfl, rfl, rfl, rfl⟩, ⟨_, rfl, rfl⟩, rfl, by simp, by simp, z24, i24 _, by rw [AV_size, AV_size], AV_one _, rfl, rfl⟩, trivial⟩
      case o0 =>
        intro vals w' hg hd
        clear hd
        simp only [putS, List.foldl_nil]
        exact one_load_row (by rfl) _ _ rfl _ rfl _ _ _ _ (block_below' hg HA.out) Try.underlying24 rfl (i24 _) (isV_mk _ _)
      case o1 =>
        intro vals w' hg hd
        clear hd
        simp only [putS, List.foldl_nil]
        exact one_load_row (by rfl) _ _ rfl _ rfl _ _ _ _ (block_below' hg HB.out) Try.underlying24 rfl (i24 _) (isV_mk _ _)
      case o2 =>
        intro vals w' hg hd
        have h0 : vals 0 = .agg (AV a) := hd.1
        have h1 : vals 1 = .agg (AV b) := hd.2.1
        clear hd
        simp only [putS, List.foldl_nil, List.foldl_cons, Act.put, List.setIfInBounds_toArray, List.set_cons_zero, List.set_cons_succ, h0, h1]
        clear hg h0 h1
        go_simp
        exact (union_c a b ha hb w').mono fun e w2 ⟨he, hb⟩ => ⟨_, he, hb, isV_mk _ _⟩
      case o3 =>
        intro vals w' hg hd
        clear hd
        simp only [putS, List.foldl_nil]
        exact one_load_row (by rfl) _ _ rfl _ rfl _ _ _ _ (block_below' hg HA.out) Try.underlying24 rfl (i24 _) (isV_mk _ _)
      case o4 =>
        intro vals w' hg hd
        clear hd
        simp only [putS, List.foldl_nil]
        exact one_load_row (by rfl) _ _ rfl _ rfl _ _ _ _ (block_below' hg HB.out) Try.underlying24 rfl (i24 _) (isV_mk _ _)
      case o5 =>
        intro vals w' hg hd
        have h3 : vals 3 = .agg (AV a) := hd.1
        have h4 : vals 4 = .agg (AV b) := hd.2.1
        clear hd
        simp only [putS, List.foldl_nil, List.foldl_cons, Act.put, List.setIfInBounds_toArray, List.set_cons_zero, List.set_cons_succ, h3, h4]
        clear hg h3 h4
        go_simp
        exact (meet_c a b ha hb w').mono fun e w2 ⟨he, hb⟩ => ⟨_, he, hb, isV_mk _ _⟩
      case o6 =>
        intro vals w' hg hd
        clear hd
        simp only [putS, List.foldl_nil]
        exact one_load_row (by rfl) _ _ rfl _ rfl _ _ _ _ (block_below' hg HA.out) Try.underlying24 rfl (i24 _) (isV_mk _ _)
      case o7 =>
        intro vals w' hg hd
        clear hd
        simp only [putS, List.foldl_nil]
        exact one_load_row (by rfl) _ _ rfl _ rfl _ _ _ _ (block_below' hg HB.out) Try.underlying24 rfl (i24 _) (isV_mk _ _)
      case o8 =>
        intro vals w' hg hd
        have h6 : vals 6 = .agg (AV a) := hd.1
        have h7 : vals 7 = .agg (AV b) := hd.2.1
        clear hd
        simp only [putS, List.foldl_nil, List.foldl_cons, Act.put, List.setIfInBounds_toArray, List.set_cons_zero, List.set_cons_succ, h6, h7]
        clear hg h6 h7
        go_simp
        exact (minus_c a b ha hb w').mono fun e w2 ⟨he, hb⟩ => ⟨_, he, hb, isV_mk _ _⟩
      case o9 =>
        intro vals w' hg hd
        clear hd
        simp only [putS, List.foldl_nil]
        exact one_load_row (by rfl) _ _ rfl _ rfl _ _ _ _ (block_below' hg HA.out) Try.underlying24 rfl (i24 _) (isV_mk _ _)
      case o10 =>
        intro vals w' hg hd
        have h9 : vals 9 = .agg (AV a) := hd.1
        clear hd
        simp only [putS, List.foldl_nil, List.foldl_cons, Act.put, List.setIfInBounds_toArray, List.set_cons_zero, List.set_cons_succ, h9]
        clear hg h9
        go_simp
        exact (not_c a ha w').mono fun e w2 ⟨he, hb⟩ => ⟨_, he, hb, isV_mk _ _⟩
      case fin =>
        intro vals w' hg hd hvs hdist
        have h0 : vals 0 = .agg (AV a) := hd.1
        have h1 : vals 1 = .agg (AV b) := hd.2.1
        have h2 : vals 2 = .agg (AV (orW a b)) := hd.2.2.1
        have h3 : vals 3 = .agg (AV a) := hd.2.2.2.1
        have h4 : vals 4 = .agg (AV b) := hd.2.2.2.2.1
        have h5 : vals 5 = .agg (AV (andW a b)) := hd.2.2.2.2.2.1
        have h6 : vals 6 = .agg (AV a) := hd.2.2.2.2.2.2.1
        have h7 : vals 7 = .agg (AV b) := hd.2.2.2.2.2.2.2.1
        have h8 : vals 8 = .agg (AV (subW a b)) := hd.2.2.2.2.2.2.2.2.1
        have h9 : vals 9 = .agg (AV a) := hd.2.2.2.2.2.2.2.2.2.1
        have h10 : vals 10 = .agg (AV (notW a)) := hd.2.2.2.2.2.2.2.2.2.2.1
        clear hd
        obtain ⟨⟨b11, h11, hn11, hb11⟩, ⟨b12, h12, hn12, hb12⟩, ⟨b13, h13, hn13, hb13⟩, ⟨b14, h14, hn14, hb14⟩, _⟩ := hvs
        simp only [putS, List.foldl_nil, List.foldl_cons, Act.put, List.setIfInBounds_toArray, List.set_cons_zero, List.set_cons_succ, h0, h1, h2, h3, h4, h5, h6, h7, h8, h9, h10, h11, h12, h13, h14]
        have HU := Lib.hid hb11; have HM := Lib.hid hb12; have HD := Lib.hid hb13; have HN := Lib.hid hb14
        have HA := Lib.hid (block_below' hg HA.out)
        have HB := Lib.hid (block_below' hg HB.out)
        have HC := Lib.hid (block_below' hg HC.out)
        have HE := Lib.hid (HE.out.trans hg)
        clear hg h0 h1 h2 h3 h4 h5 h6 h7 h8 h9 h10 h11 h12 h13 h14 hdist hb11 hb12 hb13 hb14 hn11 hn12 hn13 hn14
        go_wp2_with (first | (refine wpList_load_row rfl 24 _ rfl _ rfl _ _ _ _ HU.out Try.underlying24 rfl (i24 _) ?_; simp only [Act.put, List.setIfInBounds_toArray, List.set_cons_zero, List.set_cons_succ]) | (refine wpList_load_row_g (by rfl) 24 _ rfl _ rfl _ _ _ _ HU.out Try.underlying24 rfl (i24 _) ?_; simp only [Act.put, List.setIfInBounds_toArray, List.set_cons_zero, List.set_cons_succ]) | (refine wpList_load_row rfl 24 _ rfl _ rfl _ _ _ _ HM.out Try.underlying24 rfl (i24 _) ?_; simp only [Act.put, List.setIfInBounds_toArray, List.set_cons_zero, List.set_cons_succ]) | (refine wpList_load_row_g (by rfl) 24 _ rfl _ rfl _ _ _ _ HM.out Try.underlying24 rfl (i24 _) ?_; simp only [Act.put, List.setIfInBounds_toArray, List.set_cons_zero, List.set_cons_succ]) | (refine wpList_load_row rfl 24 _ rfl _ rfl _ _ _ _ HD.out Try.underlying24 rfl (i24 _) ?_; simp only [Act.put, List.setIfInBounds_toArray, List.set_cons_zero, List.set_cons_succ]) | (refine wpList_load_row_g (by rfl) 24 _ rfl _ rfl _ _ _ _ HD.out Try.underlying24 rfl (i24 _) ?_; simp only [Act.put, List.setIfInBounds_toArray, List.set_cons_zero, List.set_cons_succ]) | (refine wpList_load_row rfl 24 _ rfl _ rfl _ _ _ _ HN.out Try.underlying24 rfl (i24 _) ?_; simp only [Act.put, List.setIfInBounds_toArray, List.set_cons_zero, List.set_cons_succ]) | (refine wpList_load_row_g (by rfl) 24 _ rfl _ rfl _ _ _ _ HN.out Try.underlying24 rfl (i24 _) ?_; simp only [Act.put, List.setIfInBounds_toArray, List.set_cons_zero, List.set_cons_succ]))
        refine (has_c _ (orW_W64 ha hb) x hx _).mono ?_
        rw [KU.out]
        rintro e w2 ⟨rfl, hg⟩
        have HA := Lib.hid (block_below' hg HA.out)
        have HB := Lib.hid (block_below' hg HB.out)
        have HC := Lib.hid (block_below' hg HC.out)
        have HU := Lib.hid (block_below' hg HU.out)
        have HM := Lib.hid (block_below' hg HM.out)
        have HD := Lib.hid (block_below' hg HD.out)
        have HN := Lib.hid (block_below' hg HN.out)
        have HE := Lib.hid (HE.out.trans hg)
        clear hg
        go_wp2_with (first | (refine wpList_load_row rfl 24 _ rfl _ rfl _ _ _ _ HU.out Try.underlying24 rfl (i24 _) ?_; simp only [Act.put, List.setIfInBounds_toArray, List.set_cons_zero, List.set_cons_succ]) | (refine wpList_load_row_g (by rfl) 24 _ rfl _ rfl _ _ _ _ HU.out Try.underlying24 rfl (i24 _) ?_; simp only [Act.put, List.setIfInBounds_toArray, List.set_cons_zero, List.set_cons_succ]) | (refine wpList_load_row rfl 24 _ rfl _ rfl _ _ _ _ HM.out Try.underlying24 rfl (i24 _) ?_; simp only [Act.put, List.setIfInBounds_toArray, List.set_cons_zero, List.set_cons_succ]) | (refine wpList_load_row_g (by rfl) 24 _ rfl _ rfl _ _ _ _ HM.out Try.underlying24 rfl (i24 _) ?_; simp only [Act.put, List.setIfInBounds_toArray, List.set_cons_zero, List.set_cons_succ]) | (refine wpList_load_row rfl 24 _ rfl _ rfl _ _ _ _ HD.out Try.underlying24 rfl (i24 _) ?_; simp only [Act.put, List.setIfInBounds_toArray, List.set_cons_zero, List.set_cons_succ]) | (refine wpList_load_row_g (by rfl) 24 _ rfl _ rfl _ _ _ _ HD.out Try.underlying24 rfl (i24 _) ?_; simp only [Act.put, List.setIfInBounds_toArray, List.set_cons_zero, List.set_cons_succ]) | (refine wpList_load_row rfl 24 _ rfl _ rfl _ _ _ _ HN.out Try.underlying24 rfl (i24 _) ?_; simp only [Act.put, List.setIfInBounds_toArray, List.set_cons_zero, List.set_cons_succ]) | (refine wpList_load_row_g (by rfl) 24 _ rfl _ rfl _ _ _ _ HN.out Try.underlying24 rfl (i24 _) ?_; simp only [Act.put, List.setIfInBounds_toArray, List.set_cons_zero, List.set_cons_succ]))
        refine (has_c _ (andW_W64 ha b) x hx _).mono ?_
        rw [KM.out]
        rintro e w2 ⟨rfl, hg⟩
        have HA := Lib.hid (block_below' hg HA.out)
        have HB := Lib.hid (block_below' hg HB.out)
        have HC := Lib.hid (block_below' hg HC.out)
        have HU := Lib.hid (block_below' hg HU.out)
        have HM := Lib.hid (block_below' hg HM.out)
        have HD := Lib.hid (block_below' hg HD.out)
        have HN := Lib.hid (block_below' hg HN.out)
        have HE := Lib.hid (HE.out.trans hg)
        clear hg
        go_wp2_with (first | (refine wpList_load_row rfl 24 _ rfl _ rfl _ _ _ _ HU.out Try.underlying24 rfl (i24 _) ?_; simp only [Act.put, List.setIfInBounds_toArray, List.set_cons_zero, List.set_cons_succ]) | (refine wpList_load_row_g (by rfl) 24 _ rfl _ rfl _ _ _ _ HU.out Try.underlying24 rfl (i24 _) ?_; simp only [Act.put, List.setIfInBounds_toArray, List.set_cons_zero, List.set_cons_succ]) | (refine wpList_load_row rfl 24 _ rfl _ rfl _ _ _ _ HM.out Try.underlying24 rfl (i24 _) ?_; simp only [Act.put, List.setIfInBounds_toArray, List.set_cons_zero, List.set_cons_succ]) | (refine wpList_load_row_g (by rfl) 24 _ rfl _ rfl _ _ _ _ HM.out Try.underlying24 rfl (i24 _) ?_; simp only [Act.put, List.setIfInBounds_toArray, List.set_cons_zero, List.set_cons_succ]) | (refine wpList_load_row rfl 24 _ rfl _ rfl _ _ _ _ HD.out Try.underlying24 rfl (i24 _) ?_; simp only [Act.put, List.setIfInBounds_toArray, List.set_cons_zero, List.set_cons_succ]) | (refine wpList_load_row_g (by rfl) 24 _ rfl _ rfl _ _ _ _ HD.out Try.underlying24 rfl (i24 _) ?_; simp only [Act.put, List.setIfInBounds_toArray, List.set_cons_zero, List.set_cons_succ]) | (refine wpList_load_row rfl 24 _ rfl _ rfl _ _ _ _ HN.out Try.underlying24 rfl (i24 _) ?_; simp only [Act.put, List.setIfInBounds_toArray, List.set_cons_zero, List.set_cons_succ]) | (refine wpList_load_row_g (by rfl) 24 _ rfl _ rfl _ _ _ _ HN.out Try.underlying24 rfl (i24 _) ?_; simp only [Act.put, List.setIfInBounds_toArray, List.set_cons_zero, List.set_cons_succ]))
        refine (has_c _ (subW_W64 ha b) x hx _).mono ?_
        rw [KD.out]
        rintro e w2 ⟨rfl, hg⟩
        have HA := Lib.hid (block_below' hg HA.out)
        have HB := Lib.hid (block_below' hg HB.out)
        have HC := Lib.hid (block_below' hg HC.out)
        have HU := Lib.hid (block_below' hg HU.out)
        have HM := Lib.hid (block_below' hg HM.out)
        have HD := Lib.hid (block_below' hg HD.out)
        have HN := Lib.hid (block_below' hg HN.out)
        have HE := Lib.hid (HE.out.trans hg)
        clear hg
        go_wp2_with (first | (refine wpList_load_row rfl 24 _ rfl _ rfl _ _ _ _ HU.out Try.underlying24 rfl (i24 _) ?_; simp only [Act.put, List.setIfInBounds_toArray, List.set_cons_zero, List.set_cons_succ]) | (refine wpList_load_row_g (by rfl) 24 _ rfl _ rfl _ _ _ _ HU.out Try.underlying24 rfl (i24 _) ?_; simp only [Act.put, List.setIfInBounds_toArray, List.set_cons_zero, List.set_cons_succ]) | (refine wpList_load_row rfl 24 _ rfl _ rfl _ _ _ _ HM.out Try.underlying24 rfl (i24 _) ?_; simp only [Act.put, List.setIfInBounds_toArray, List.set_cons_zero, List.set_cons_succ]) | (refine wpList_load_row_g (by rfl) 24 _ rfl _ rfl _ _ _ _ HM.out Try.underlying24 rfl (i24 _) ?_; simp only [Act.put, List.setIfInBounds_toArray, List.set_cons_zero, List.set_cons_succ]) | (refine wpList_load_row rfl 24 _ rfl _ rfl _ _ _ _ HD.out Try.underlying24 rfl (i24 _) ?_; simp only [Act.put, List.setIfInBounds_toArray, List.set_cons_zero, List.set_cons_succ]) | (refine wpList_load_row_g (by rfl) 24 _ rfl _ rfl _ _ _ _ HD.out Try.underlying24 rfl (i24 _) ?_; simp only [Act.put, List.setIfInBounds_toArray, List.set_cons_zero, List.set_cons_succ]) | (refine wpList_load_row rfl 24 _ rfl _ rfl _ _ _ _ HN.out Try.underlying24 rfl (i24 _) ?_; simp only [Act.put, List.setIfInBounds_toArray, List.set_cons_zero, List.set_cons_succ]) | (refine wpList_load_row_g (by rfl) 24 _ rfl _ rfl _ _ _ _ HN.out Try.underlying24 rfl (i24 _) ?_; simp only [Act.put, List.setIfInBounds_toArray, List.set_cons_zero, List.set_cons_succ]))
        refine (has_c _ (notW_W64 a) x hx _).mono ?_
        rw [KN.out]
        rintro e w2 ⟨rfl, hg⟩
        have HA := Lib.hid (block_below' hg HA.out)
        have HB := Lib.hid (block_below' hg HB.out)
        have HC := Lib.hid (block_below' hg HC.out)
        have HU := Lib.hid (block_below' hg HU.out)
        have HM := Lib.hid (block_below' hg HM.out)
        have HD := Lib.hid (block_below' hg HD.out)
        have HN := Lib.hid (block_below' hg HN.out)
        have HE := Lib.hid (HE.out.trans hg)
        clear hg
        go_wp2_with fail
        refine wp_region_grows 26 [IsV (.agg (AV (orW a b))), IsV (.agg (AV (b))), IsV (.agg (AV (a))), IsV (.agg (AV (orW b a))), IsV (.bool false), IsV (.bool false), IsV (.agg (AV (andW a b))), IsV (.agg (AV (b))), IsV (.agg (AV (a))), IsV (.agg (AV (andW b a))), IsV (.bool false), IsV (.bool false), IsV (.bool false), IsV (.agg (AV (notW a))), IsV (.agg (AV (notW (notW a)))), IsV (.agg (AV (a))), IsV (.bool false), IsV (.bool false), IsV (.bool false), IsV (.agg (AV (subW a b))), IsV (.agg (AV (a))), IsV (.agg (AV (b))), IsV (.agg (AV (notW b))), IsV (.agg (AV (andW a (notW b)))), IsV (.bool false), IsV (.bool false)] []
          [[], [], [], [(1, 74), (2, 75)], [(0, 73), (3, 76)], [(4, 77)], [(5, 78)], [(5, 78)], [(5, 78)], [(5, 78), (7, 80), (8, 81)], [(5, 78), (6, 79), (9, 82)], [(5, 78), (10, 83)], [(11, 84)], [(12, 85)], [(12, 85), (13, 86)], [(12, 85)], [(12, 85), (14, 87), (15, 88)], [(12, 85), (16, 89)], [(17, 90)], [(18, 91)], [(18, 91)], [(18, 91)], [(18, 91), (21, 94)], [(18, 91), (20, 93), (22, 95)], [(18, 91), (19, 92), (23, 96)], [(18, 91), (24, 97)]] [(0, 73), (1, 74), (2, 75), (3, 76), (4, 77), (5, 78), (6, 79), (7, 80), (8, 81), (9, 82), (10, 83), (11, 84), (12, 85), (13, 86), (14, 87), (15, 88), (16, 89), (17, 90), (18, 91), (19, 92), (20, 93), (21, 94), (22, 95), (23, 96), (24, 97), (25, 98)] (by kernel_rfl) (by kernel_rfl) rfl ?stable ⟨?o0, ?o1, ?o2, ?o3, ?o4, ?o5, ?o6, ?o7, ?o8, ?o9, ?o10, ?o11, ?o12, ?o13, ?o14, ?o15, ?o16, ?o17, ?o18, ?o19, ?o20, ?o21, ?o22, ?o23, ?o24, ?o25, trivial⟩ ?fin
        case stable => exact ⟨IsV.stable _, IsV.stable _, IsV.stable _, IsV.stable _, IsV.stable _, IsV.stable _, IsV.stable _, IsV.stable _, IsV.stable _, IsV.stable _, IsV.stable _, IsV.stable _, IsV.stable _, IsV.stable _, IsV.stable _, IsV.stable _, IsV.stable _, IsV.stable _, IsV.stable _, IsV.stable _, IsV.stable _, IsV.stable _, IsV.stable _, IsV.stable _, IsV.stable _, IsV.stable _, trivial⟩
        case o0 =>
          intro vals w' hg hd
          clear hd
          simp only [putS, List.foldl_nil]
          exact one_load_row (by rfl) _ _ rfl _ rfl _ _ _ _ (block_below' hg HU.out) Try.underlying24 rfl (i24 _) (isV_mk _ _)
        case o1 =>
          intro vals w' hg hd
          clear hd
          simp only [putS, List.foldl_nil]
          exact one_load_row (by rfl) _ _ rfl _ rfl _ _ _ _ (block_below' hg HB.out) Try.underlying24 rfl (i24 _) (isV_mk _ _)
        case o2 =>
          intro vals w' hg hd
          clear hd
          simp only [putS, List.foldl_nil]
          exact one_load_row (by rfl) _ _ rfl _ rfl _ _ _ _ (block_below' hg HA.out) Try.underlying24 rfl (i24 _) (isV_mk _ _)
        case o3 =>
          intro vals w' hg hd
          have h1 : vals 1 = .agg (AV (b)) := hd.1
          have h2 : vals 2 = .agg (AV (a)) := hd.2.1
          clear hd
          simp only [putS, List.foldl_nil, List.foldl_cons, Act.put, List.setIfInBounds_toArray, List.set_cons_zero, List.set_cons_succ, h1, h2]
          clear hg h1 h2
          go_simp
          exact (union_c b a hb ha w').mono fun e w2 ⟨he, hb⟩ => ⟨_, he, hb, isV_mk _ _⟩
        case o4 =>
          intro vals w' hg hd
          have h0 : vals 0 = .agg (AV (orW a b)) := hd.1
          have h3 : vals 3 = .agg (AV (orW b a)) := hd.2.1
          clear hd
          simp only [putS, List.foldl_nil, List.foldl_cons, Act.put, List.setIfInBounds_toArray, List.set_cons_zero, List.set_cons_succ, h0, h3]
          have heq0 := fun w => eq_AV_true E1.out w
          clear hg h0 h3
          go_simp
          exact isV_mk _ _
        case o5 =>
          intro vals w' hg hd
          have h4 : vals 4 = .bool false := hd.1
          clear hd
          simp only [putS, List.foldl_nil, List.foldl_cons, Act.put, List.setIfInBounds_toArray, List.set_cons_zero, List.set_cons_succ, h4]
          clear hg h4
          go_simp
          try go_bits
          exact isV_mk _ _
        case o6 =>
          intro vals w' hg hd
          have h5 : vals 5 = .bool false := hd.1
          clear hd
          simp only [putS, List.foldl_nil, List.foldl_cons, Act.put, List.setIfInBounds_toArray, List.set_cons_zero, List.set_cons_succ, h5]
          exact one_load_row (by rfl) _ _ rfl _ rfl _ _ _ _ (block_below' hg HM.out) Try.underlying24 rfl (i24 _) (isV_mk _ _)
        case o7 =>
          intro vals w' hg hd
          have h5 : vals 5 = .bool false := hd.1
          clear hd
          simp only [putS, List.foldl_nil, List.foldl_cons, Act.put, List.setIfInBounds_toArray, List.set_cons_zero, List.set_cons_succ, h5]
          exact one_load_row (by rfl) _ _ rfl _ rfl _ _ _ _ (block_below' hg HB.out) Try.underlying24 rfl (i24 _) (isV_mk _ _)
        case o8 =>
          intro vals w' hg hd
          have h5 : vals 5 = .bool false := hd.1
          clear hd
          simp only [putS, List.foldl_nil, List.foldl_cons, Act.put, List.setIfInBounds_toArray, List.set_cons_zero, List.set_cons_succ, h5]
          exact one_load_row (by rfl) _ _ rfl _ rfl _ _ _ _ (block_below' hg HA.out) Try.underlying24 rfl (i24 _) (isV_mk _ _)
        case o9 =>
          intro vals w' hg hd
          have h5 : vals 5 = .bool false := hd.1
          have h7 : vals 7 = .agg (AV (b)) := hd.2.1
          have h8 : vals 8 = .agg (AV (a)) := hd.2.2.1
          clear hd
          simp only [putS, List.foldl_nil, List.foldl_cons, Act.put, List.setIfInBounds_toArray, List.set_cons_zero, List.set_cons_succ, h5, h7, h8]
          clear hg h5 h7 h8
          go_simp
          exact (meet_c b a hb ha w').mono fun e w2 ⟨he, hb⟩ => ⟨_, he, hb, isV_mk _ _⟩
        case o10 =>
          intro vals w' hg hd
          have h5 : vals 5 = .bool false := hd.1
          have h6 : vals 6 = .agg (AV (andW a b)) := hd.2.1
          have h9 : vals 9 = .agg (AV (andW b a)) := hd.2.2.1
          clear hd
          simp only [putS, List.foldl_nil, List.foldl_cons, Act.put, List.setIfInBounds_toArray, List.set_cons_zero, List.set_cons_succ, h5, h6, h9]
          have heq0 := fun w => eq_AV_true E2.out w
          clear hg h5 h6 h9
          go_simp
          exact isV_mk _ _
        case o11 =>
          intro vals w' hg hd
          have h5 : vals 5 = .bool false := hd.1
          have h10 : vals 10 = .bool false := hd.2.1
          clear hd
          simp only [putS, List.foldl_nil, List.foldl_cons, Act.put, List.setIfInBounds_toArray, List.set_cons_zero, List.set_cons_succ, h5, h10]
          clear hg h5 h10
          go_simp
          try go_bits
          exact isV_mk _ _
        case o12 =>
          intro vals w' hg hd
          have h11 : vals 11 = .bool false := hd.1
          clear hd
          simp only [putS, List.foldl_nil, List.foldl_cons, Act.put, List.setIfInBounds_toArray, List.set_cons_zero, List.set_cons_succ, h11]
          clear hg h11
          go_simp
          try go_bits
          exact isV_mk _ _
        case o13 =>
          intro vals w' hg hd
          have h12 : vals 12 = .bool false := hd.1
          clear hd
          simp only [putS, List.foldl_nil, List.foldl_cons, Act.put, List.setIfInBounds_toArray, List.set_cons_zero, List.set_cons_succ, h12]
          exact one_load_row (by rfl) _ _ rfl _ rfl _ _ _ _ (block_below' hg HN.out) Try.underlying24 rfl (i24 _) (isV_mk _ _)
        case o14 =>
          intro vals w' hg hd
          have h12 : vals 12 = .bool false := hd.1
          have h13 : vals 13 = .agg (AV (notW a)) := hd.2.1
          clear hd
          simp only [putS, List.foldl_nil, List.foldl_cons, Act.put, List.setIfInBounds_toArray, List.set_cons_zero, List.set_cons_succ, h12, h13]
          clear hg h12 h13
          go_simp
          exact (not_c _ (notW_W64 a) w').mono fun e w2 ⟨he, hb⟩ => ⟨_, he, hb, isV_mk _ _⟩
        case o15 =>
          intro vals w' hg hd
          have h12 : vals 12 = .bool false := hd.1
          clear hd
          simp only [putS, List.foldl_nil, List.foldl_cons, Act.put, List.setIfInBounds_toArray, List.set_cons_zero, List.set_cons_succ, h12]
          exact one_load_row (by rfl) _ _ rfl _ rfl _ _ _ _ (block_below' hg HA.out) Try.underlying24 rfl (i24 _) (isV_mk _ _)
        case o16 =>
          intro vals w' hg hd
          have h12 : vals 12 = .bool false := hd.1
          have h14 : vals 14 = .agg (AV (notW (notW a))) := hd.2.1
          have h15 : vals 15 = .agg (AV (a)) := hd.2.2.1
          clear hd
          simp only [putS, List.foldl_nil, List.foldl_cons, Act.put, List.setIfInBounds_toArray, List.set_cons_zero, List.set_cons_succ, h12, h14, h15]
          have heq0 := fun w => eq_AV_true E3.out w
          clear hg h12 h14 h15
          go_simp
          exact isV_mk _ _
        case o17 =>
          intro vals w' hg hd
          have h12 : vals 12 = .bool false := hd.1
          have h16 : vals 16 = .bool false := hd.2.1
          clear hd
          simp only [putS, List.foldl_nil, List.foldl_cons, Act.put, List.setIfInBounds_toArray, List.set_cons_zero, List.set_cons_succ, h12, h16]
          clear hg h12 h16
          go_simp
          try go_bits
          exact isV_mk _ _
        case o18 =>
          intro vals w' hg hd
          have h17 : vals 17 = .bool false := hd.1
          clear hd
          simp only [putS, List.foldl_nil, List.foldl_cons, Act.put, List.setIfInBounds_toArray, List.set_cons_zero, List.set_cons_succ, h17]
          clear hg h17
          go_simp
          try go_bits
          exact isV_mk _ _
        case o19 =>
          intro vals w' hg hd
          have h18 : vals 18 = .bool false := hd.1
          clear hd
          simp only [putS, List.foldl_nil, List.foldl_cons, Act.put, List.setIfInBounds_toArray, List.set_cons_zero, List.set_cons_succ, h18]
          exact one_load_row (by rfl) _ _ rfl _ rfl _ _ _ _ (block_below' hg HD.out) Try.underlying24 rfl (i24 _) (isV_mk _ _)
        case o20 =>
          intro vals w' hg hd
          have h18 : vals 18 = .bool false := hd.1
          clear hd
          simp only [putS, List.foldl_nil, List.foldl_cons, Act.put, List.setIfInBounds_toArray, List.set_cons_zero, List.set_cons_succ, h18]
          exact one_load_row (by rfl) _ _ rfl _ rfl _ _ _ _ (block_below' hg HA.out) Try.underlying24 rfl (i24 _) (isV_mk _ _)
        case o21 =>
          intro vals w' hg hd
          have h18 : vals 18 = .bool false := hd.1
          clear hd
          simp only [putS, List.foldl_nil, List.foldl_cons, Act.put, List.setIfInBounds_toArray, List.set_cons_zero, List.set_cons_succ, h18]
          exact one_load_row (by rfl) _ _ rfl _ rfl _ _ _ _ (block_below' hg HB.out) Try.underlying24 rfl (i24 _) (isV_mk _ _)
        case o22 =>
          intro vals w' hg hd
          have h18 : vals 18 = .bool false := hd.1
          have h21 : vals 21 = .agg (AV (b)) := hd.2.1
          clear hd
          simp only [putS, List.foldl_nil, List.foldl_cons, Act.put, List.setIfInBounds_toArray, List.set_cons_zero, List.set_cons_succ, h18, h21]
          clear hg h18 h21
          go_simp
          exact (not_c b hb w').mono fun e w2 ⟨he, hb⟩ => ⟨_, he, hb, isV_mk _ _⟩
        case o23 =>
          intro vals w' hg hd
          have h18 : vals 18 = .bool false := hd.1
          have h20 : vals 20 = .agg (AV (a)) := hd.2.1
          have h22 : vals 22 = .agg (AV (notW b)) := hd.2.2.1
          clear hd
          simp only [putS, List.foldl_nil, List.foldl_cons, Act.put, List.setIfInBounds_toArray, List.set_cons_zero, List.set_cons_succ, h18, h20, h22]
          clear hg h18 h20 h22
          go_simp
          exact (meet_c a _ ha (notW_W64 b) w').mono fun e w2 ⟨he, hb⟩ => ⟨_, he, hb, isV_mk _ _⟩
        case o24 =>
          intro vals w' hg hd
          have h18 : vals 18 = .bool false := hd.1
          have h19 : vals 19 = .agg (AV (subW a b)) := hd.2.1
          have h23 : vals 23 = .agg (AV (andW a (notW b))) := hd.2.2.1
          clear hd
          simp only [putS, List.foldl_nil, List.foldl_cons, Act.put, List.setIfInBounds_toArray, List.set_cons_zero, List.set_cons_succ, h18, h19, h23]
          have heq0 := fun w => eq_AV_true E4.out w
          clear hg h18 h19 h23
          go_simp
          exact isV_mk _ _
        case o25 =>
          intro vals w' hg hd
          have h18 : vals 18 = .bool false := hd.1
          have h24 : vals 24 = .bool false := hd.2.1
          clear hd
          simp only [putS, List.foldl_nil, List.foldl_cons, Act.put, List.setIfInBounds_toArray, List.set_cons_zero, List.set_cons_succ, h18, h24]
          clear hg h18 h24
          go_simp
          try go_bits
          exact isV_mk _ _
        case fin =>
          intro vals w' hg hd hfresh
          have h0 : vals 0 = .agg (AV (orW a b)) := hd.1
          have h1 : vals 1 = .agg (AV (b)) := hd.2.1
          have h2 : vals 2 = .agg (AV (a)) := hd.2.2.1
          have h3 : vals 3 = .agg (AV (orW b a)) := hd.2.2.2.1
          have h4 : vals 4 = .bool false := hd.2.2.2.2.1
          have h5 : vals 5 = .bool false := hd.2.2.2.2.2.1
          have h6 : vals 6 = .agg (AV (andW a b)) := hd.2.2.2.2.2.2.1
          have h7 : vals 7 = .agg (AV (b)) := hd.2.2.2.2.2.2.2.1
          have h8 : vals 8 = .agg (AV (a)) := hd.2.2.2.2.2.2.2.2.1
          have h9 : vals 9 = .agg (AV (andW b a)) := hd.2.2.2.2.2.2.2.2.2.1
          have h10 : vals 10 = .bool false := hd.2.2.2.2.2.2.2.2.2.2.1
          have h11 : vals 11 = .bool false := hd.2.2.2.2.2.2.2.2.2.2.2.1
          have h12 : vals 12 = .bool false := hd.2.2.2.2.2.2.2.2.2.2.2.2.1
          have h13 : vals 13 = .agg (AV (notW a)) := hd.2.2.2.2.2.2.2.2.2.2.2.2.2.1
          have h14 : vals 14 = .agg (AV (notW (notW a))) := hd.2.2.2.2.2.2.2.2.2.2.2.2.2.2.1
          have h15 : vals 15 = .agg (AV (a)) := hd.2.2.2.2.2.2.2.2.2.2.2.2.2.2.2.1
          have h16 : vals 16 = .bool false := hd.2.2.2.2.2.2.2.2.2.2.2.2.2.2.2.2.1
          have h17 : vals 17 = .bool false := hd.2.2.2.2.2.2.2.2.2.2.2.2.2.2.2.2.2.1
          have h18 : vals 18 = .bool false := hd.2.2.2.2.2.2.2.2.2.2.2.2.2.2.2.2.2.2.1
          have h19 : vals 19 = .agg (AV (subW a b)) := hd.2.2.2.2.2.2.2.2.2.2.2.2.2.2.2.2.2.2.2.1
          have h20 : vals 20 = .agg (AV (a)) := hd.2.2.2.2.2.2.2.2.2.2.2.2.2.2.2.2.2.2.2.2.1
          have h21 : vals 21 = .agg (AV (b)) := hd.2.2.2.2.2.2.2.2.2.2.2.2.2.2.2.2.2.2.2.2.2.1
          have h22 : vals 22 = .agg (AV (notW b)) := hd.2.2.2.2.2.2.2.2.2.2.2.2.2.2.2.2.2.2.2.2.2.2.1
          have h23 : vals 23 = .agg (AV (andW a (notW b))) := hd.2.2.2.2.2.2.2.2.2.2.2.2.2.2.2.2.2.2.2.2.2.2.2.1
          have h24 : vals 24 = .bool false := hd.2.2.2.2.2.2.2.2.2.2.2.2.2.2.2.2.2.2.2.2.2.2.2.2.1
          have h25 : vals 25 = .bool false := hd.2.2.2.2.2.2.2.2.2.2.2.2.2.2.2.2.2.2.2.2.2.2.2.2.2.1
          clear hd
          simp only [putS, List.foldl_nil, List.foldl_cons, Act.put, List.setIfInBounds_toArray, List.set_cons_zero, List.set_cons_succ, List.drop_succ_cons, List.drop_zero, h0, h1, h2, h3, h4, h5, h6, h7, h8, h9, h10, h11, h12, h13, h14, h15, h16, h17, h18, h19, h20, h21, h22, h23, h24, h25]
          have HA := Lib.hid (block_below' hg HA.out)
          have HB := Lib.hid (block_below' hg HB.out)
          have HC := Lib.hid (block_below' hg HC.out)
          have HU := Lib.hid (block_below' hg HU.out)
          have HM := Lib.hid (block_below' hg HM.out)
          have HD := Lib.hid (block_below' hg HD.out)
          have HN := Lib.hid (block_below' hg HN.out)
          have HE := Lib.hid (HE.out.trans hg)
          clear hg h0 h1 h2 h3 h4 h5 h6 h7 h8 h9 h10 h11 h12 h13 h14 h15 h16 h17 h18 h19 h20 h21 h22 h23 h24 h25 hfresh
          go_wp2_with fail
          refine wp_region_grows 20 [IsV (.agg (AV (orW a b))), IsV (.agg (AV (notW (orW a b)))), IsV (.agg (AV (notW a))), IsV (.agg (AV (b))), IsV (.agg (AV (notW b))), IsV (.agg (AV (andW (notW a) (notW b)))), IsV (.bool false), IsV (.bool false), IsV (.agg (AV (a))), IsV (.agg (AV (b))), IsV (.agg (AV (c))), IsV (.agg (AV (orW b c))), IsV (.agg (AV (andW a (orW b c)))), IsV (.agg (AV (andW a b))), IsV (.agg (AV (a))), IsV (.agg (AV (c))), IsV (.agg (AV (andW a c))), IsV (.agg (AV (orW (andW a b) (andW a c)))), IsV (.bool false), IsV (.bool false)] []
            [[], [(0, 99)], [], [], [(3, 102)], [(2, 101), (4, 103)], [(1, 100), (5, 104)], [(6, 105)], [(7, 106)], [(7, 106)], [(7, 106)], [(7, 106), (9, 108), (10, 109)], [(7, 106), (8, 107), (11, 110)], [(7, 106)], [(7, 106)], [(7, 106)], [(7, 106), (14, 113), (15, 114)], [(7, 106), (13, 112), (16, 115)], [(7, 106), (12, 111), (17, 116)], [(7, 106), (18, 117)]] [(0, 99), (1, 100), (2, 101), (3, 102), (4, 103), (5, 104), (6, 105), (7, 106), (8, 107), (9, 108), (10, 109), (11, 110), (12, 111), (13, 112), (14, 113), (15, 114), (16, 115), (17, 116), (18, 117), (19, 118)] (by kernel_rfl) (by kernel_rfl) rfl ?stable ⟨?o0, ?o1, ?o2, ?o3, ?o4, ?o5, ?o6, ?o7, ?o8, ?o9, ?o10, ?o11, ?o12, ?o13, ?o14, ?o15, ?o16, ?o17, ?o18, ?o19, trivial⟩ ?fin
          case stable => exact ⟨IsV.stable _, IsV.stable _, IsV.stable _, IsV.stable _, IsV.stable _, IsV.stable _, IsV.stable _, IsV.stable _, IsV.stable _, IsV.stable _, IsV.stable _, IsV.stable _, IsV.stable _, IsV.stable _, IsV.stable _, IsV.stable _, IsV.stable _, IsV.stable _, IsV.stable _, IsV.stable _, trivial⟩
          case o0 =>
            intro vals w' hg hd
            clear hd
            simp only [putS, List.foldl_nil]
            exact one_load_row (by rfl) _ _ rfl _ rfl _ _ _ _ (block_below' hg HU.out) Try.underlying24 rfl (i24 _) (isV_mk _ _)
          case o1 =>
            intro vals w' hg hd
            have h0 : vals 0 = .agg (AV (orW a b)) := hd.1
            clear hd
            simp only [putS, List.foldl_nil, List.foldl_cons, Act.put, List.setIfInBounds_toArray, List.set_cons_zero, List.set_cons_succ, h0]
            clear hg h0
            go_simp
            exact (not_c _ (orW_W64 ha hb) w').mono fun e w2 ⟨he, hb⟩ => ⟨_, he, hb, isV_mk _ _⟩
          case o2 =>
            intro vals w' hg hd
            clear hd
            simp only [putS, List.foldl_nil]
            exact one_load_row (by rfl) _ _ rfl _ rfl _ _ _ _ (block_below' hg HN.out) Try.underlying24 rfl (i24 _) (isV_mk _ _)
          case o3 =>
            intro vals w' hg hd
            clear hd
            simp only [putS, List.foldl_nil]
            exact one_load_row (by rfl) _ _ rfl _ rfl _ _ _ _ (block_below' hg HB.out) Try.underlying24 rfl (i24 _) (isV_mk _ _)
          case o4 =>
            intro vals w' hg hd
            have h3 : vals 3 = .agg (AV (b)) := hd.1
            clear hd
            simp only [putS, List.foldl_nil, List.foldl_cons, Act.put, List.setIfInBounds_toArray, List.set_cons_zero, List.set_cons_succ, h3]
            clear hg h3
            go_simp
            exact (not_c b hb w').mono fun e w2 ⟨he, hb⟩ => ⟨_, he, hb, isV_mk _ _⟩
          case o5 =>
            intro vals w' hg hd
            have h2 : vals 2 = .agg (AV (notW a)) := hd.1
            have h4 : vals 4 = .agg (AV (notW b)) := hd.2.1
            clear hd
            simp only [putS, List.foldl_nil, List.foldl_cons, Act.put, List.setIfInBounds_toArray, List.set_cons_zero, List.set_cons_succ, h2, h4]
            clear hg h2 h4
            go_simp
            exact (meet_c _ _ (notW_W64 a) (notW_W64 b) w').mono fun e w2 ⟨he, hb⟩ => ⟨_, he, hb, isV_mk _ _⟩
          case o6 =>
            intro vals w' hg hd
            have h1 : vals 1 = .agg (AV (notW (orW a b))) := hd.1
            have h5 : vals 5 = .agg (AV (andW (notW a) (notW b))) := hd.2.1
            clear hd
            simp only [putS, List.foldl_nil, List.foldl_cons, Act.put, List.setIfInBounds_toArray, List.set_cons_zero, List.set_cons_succ, h1, h5]
            have heq0 := fun w => eq_AV_true E5.out w
            clear hg h1 h5
            go_simp
            exact isV_mk _ _
          case o7 =>
            intro vals w' hg hd
            have h6 : vals 6 = .bool false := hd.1
            clear hd
            simp only [putS, List.foldl_nil, List.foldl_cons, Act.put, List.setIfInBounds_toArray, List.set_cons_zero, List.set_cons_succ, h6]
            clear hg h6
            go_simp
            try go_bits
            exact isV_mk _ _
          case o8 =>
            intro vals w' hg hd
            have h7 : vals 7 = .bool false := hd.1
            clear hd
            simp only [putS, List.foldl_nil, List.foldl_cons, Act.put, List.setIfInBounds_toArray, List.set_cons_zero, List.set_cons_succ, h7]
            exact one_load_row (by rfl) _ _ rfl _ rfl _ _ _ _ (block_below' hg HA.out) Try.underlying24 rfl (i24 _) (isV_mk _ _)
          case o9 =>
            intro vals w' hg hd
            have h7 : vals 7 = .bool false := hd.1
            clear hd
            simp only [putS, List.foldl_nil, List.foldl_cons, Act.put, List.setIfInBounds_toArray, List.set_cons_zero, List.set_cons_succ, h7]
            exact one_load_row (by rfl) _ _ rfl _ rfl _ _ _ _ (block_below' hg HB.out) Try.underlying24 rfl (i24 _) (isV_mk _ _)
          case o10 =>
            intro vals w' hg hd
            have h7 : vals 7 = .bool false := hd.1
            clear hd
            simp only [putS, List.foldl_nil, List.foldl_cons, Act.put, List.setIfInBounds_toArray, List.set_cons_zero, List.set_cons_succ, h7]
            exact one_load_row (by rfl) _ _ rfl _ rfl _ _ _ _ (block_below' hg HC.out) Try.underlying24 rfl (i24 _) (isV_mk _ _)
          case o11 =>
            intro vals w' hg hd
            have h7 : vals 7 = .bool false := hd.1
            have h9 : vals 9 = .agg (AV (b)) := hd.2.1
            have h10 : vals 10 = .agg (AV (c)) := hd.2.2.1
            clear hd
            simp only [putS, List.foldl_nil, List.foldl_cons, Act.put, List.setIfInBounds_toArray, List.set_cons_zero, List.set_cons_succ, h7, h9, h10]
            clear hg h7 h9 h10
            go_simp
            exact (union_c b c hb hc w').mono fun e w2 ⟨he, hb⟩ => ⟨_, he, hb, isV_mk _ _⟩
          case o12 =>
            intro vals w' hg hd
            have h7 : vals 7 = .bool false := hd.1
            have h8 : vals 8 = .agg (AV (a)) := hd.2.1
            have h11 : vals 11 = .agg (AV (orW b c)) := hd.2.2.1
            clear hd
            simp only [putS, List.foldl_nil, List.foldl_cons, Act.put, List.setIfInBounds_toArray, List.set_cons_zero, List.set_cons_succ, h7, h8, h11]
            clear hg h7 h8 h11
            go_simp
            exact (meet_c a _ ha (orW_W64 hb hc) w').mono fun e w2 ⟨he, hb⟩ => ⟨_, he, hb, isV_mk _ _⟩
          case o13 =>
            intro vals w' hg hd
            have h7 : vals 7 = .bool false := hd.1
            clear hd
            simp only [putS, List.foldl_nil, List.foldl_cons, Act.put, List.setIfInBounds_toArray, List.set_cons_zero, List.set_cons_succ, h7]
            exact one_load_row (by rfl) _ _ rfl _ rfl _ _ _ _ (block_below' hg HM.out) Try.underlying24 rfl (i24 _) (isV_mk _ _)
          case o14 =>
            intro vals w' hg hd
            have h7 : vals 7 = .bool false := hd.1
            clear hd
            simp only [putS, List.foldl_nil, List.foldl_cons, Act.put, List.setIfInBounds_toArray, List.set_cons_zero, List.set_cons_succ, h7]
            exact one_load_row (by rfl) _ _ rfl _ rfl _ _ _ _ (block_below' hg HA.out) Try.underlying24 rfl (i24 _) (isV_mk _ _)
          case o15 =>
            intro vals w' hg hd
            have h7 : vals 7 = .bool false := hd.1
            clear hd
            simp only [putS, List.foldl_nil, List.foldl_cons, Act.put, List.setIfInBounds_toArray, List.set_cons_zero, List.set_cons_succ, h7]
            exact one_load_row (by rfl) _ _ rfl _ rfl _ _ _ _ (block_below' hg HC.out) Try.underlying24 rfl (i24 _) (isV_mk _ _)
          case o16 =>
            intro vals w' hg hd
            have h7 : vals 7 = .bool false := hd.1
            have h14 : vals 14 = .agg (AV (a)) := hd.2.1
            have h15 : vals 15 = .agg (AV (c)) := hd.2.2.1
            clear hd
            simp only [putS, List.foldl_nil, List.foldl_cons, Act.put, List.setIfInBounds_toArray, List.set_cons_zero, List.set_cons_succ, h7, h14, h15]
            clear hg h7 h14 h15
            go_simp
            exact (meet_c a c ha hc w').mono fun e w2 ⟨he, hb⟩ => ⟨_, he, hb, isV_mk _ _⟩
          case o17 =>
            intro vals w' hg hd
            have h7 : vals 7 = .bool false := hd.1
            have h13 : vals 13 = .agg (AV (andW a b)) := hd.2.1
            have h16 : vals 16 = .agg (AV (andW a c)) := hd.2.2.1
            clear hd
            simp only [putS, List.foldl_nil, List.foldl_cons, Act.put, List.setIfInBounds_toArray, List.set_cons_zero, List.set_cons_succ, h7, h13, h16]
            clear hg h7 h13 h16
            go_simp
            exact (union_c _ _ (andW_W64 ha b) (andW_W64 ha c) w').mono fun e w2 ⟨he, hb⟩ => ⟨_, he, hb, isV_mk _ _⟩
          case o18 =>
            intro vals w' hg hd
            have h7 : vals 7 = .bool false := hd.1
            have h12 : vals 12 = .agg (AV (andW a (orW b c))) := hd.2.1
            have h17 : vals 17 = .agg (AV (orW (andW a b) (andW a c))) := hd.2.2.1
            clear hd
            simp only [putS, List.foldl_nil, List.foldl_cons, Act.put, List.setIfInBounds_toArray, List.set_cons_zero, List.set_cons_succ, h7, h12, h17]
            have heq0 := fun w => eq_AV_true E6.out w
            clear hg h7 h12 h17
            go_simp
            exact isV_mk _ _
          case o19 =>
            intro vals w' hg hd
            have h7 : vals 7 = .bool false := hd.1
            have h18 : vals 18 = .bool false := hd.2.1
            clear hd
            simp only [putS, List.foldl_nil, List.foldl_cons, Act.put, List.setIfInBounds_toArray, List.set_cons_zero, List.set_cons_succ, h7, h18]
            clear hg h7 h18
            go_simp
            try go_bits
            exact isV_mk _ _
          case fin =>
            intro vals w' hg hd hfresh
            have h0 : vals 0 = .agg (AV (orW a b)) := hd.1
            have h1 : vals 1 = .agg (AV (notW (orW a b))) := hd.2.1
            have h2 : vals 2 = .agg (AV (notW a)) := hd.2.2.1
            have h3 : vals 3 = .agg (AV (b)) := hd.2.2.2.1
            have h4 : vals 4 = .agg (AV (notW b)) := hd.2.2.2.2.1
            have h5 : vals 5 = .agg (AV (andW (notW a) (notW b))) := hd.2.2.2.2.2.1
            have h6 : vals 6 = .bool false := hd.2.2.2.2.2.2.1
            have h7 : vals 7 = .bool false := hd.2.2.2.2.2.2.2.1
            have h8 : vals 8 = .agg (AV (a)) := hd.2.2.2.2.2.2.2.2.1
            have h9 : vals 9 = .agg (AV (b)) := hd.2.2.2.2.2.2.2.2.2.1
            have h10 : vals 10 = .agg (AV (c)) := hd.2.2.2.2.2.2.2.2.2.2.1
            have h11 : vals 11 = .agg (AV (orW b c)) := hd.2.2.2.2.2.2.2.2.2.2.2.1
            have h12 : vals 12 = .agg (AV (andW a (orW b c))) := hd.2.2.2.2.2.2.2.2.2.2.2.2.1
            have h13 : vals 13 = .agg (AV (andW a b)) := hd.2.2.2.2.2.2.2.2.2.2.2.2.2.1
            have h14 : vals 14 = .agg (AV (a)) := hd.2.2.2.2.2.2.2.2.2.2.2.2.2.2.1
            have h15 : vals 15 = .agg (AV (c)) := hd.2.2.2.2.2.2.2.2.2.2.2.2.2.2.2.1
            have h16 : vals 16 = .agg (AV (andW a c)) := hd.2.2.2.2.2.2.2.2.2.2.2.2.2.2.2.2.1
            have h17 : vals 17 = .agg (AV (orW (andW a b) (andW a c))) := hd.2.2.2.2.2.2.2.2.2.2.2.2.2.2.2.2.2.1
            have h18 : vals 18 = .bool false := hd.2.2.2.2.2.2.2.2.2.2.2.2.2.2.2.2.2.2.1
            have h19 : vals 19 = .bool false := hd.2.2.2.2.2.2.2.2.2.2.2.2.2.2.2.2.2.2.2.1
            clear hd
            simp only [putS, List.foldl_nil, List.foldl_cons, Act.put, List.setIfInBounds_toArray, List.set_cons_zero, List.set_cons_succ, List.drop_succ_cons, List.drop_zero, h0, h1, h2, h3, h4, h5, h6, h7, h8, h9, h10, h11, h12, h13, h14, h15, h16, h17, h18, h19]
            have HA := Lib.hid (block_below' hg HA.out)
            have HB := Lib.hid (block_below' hg HB.out)
            have HC := Lib.hid (block_below' hg HC.out)
            have HU := Lib.hid (block_below' hg HU.out)
            have HM := Lib.hid (block_below' hg HM.out)
            have HD := Lib.hid (block_below' hg HD.out)
            have HN := Lib.hid (block_below' hg HN.out)
            have HE := Lib.hid (HE.out.trans hg)
            clear hg h0 h1 h2 h3 h4 h5 h6 h7 h8 h9 h10 h11 h12 h13 h14 h15 h16 h17 h18 h19 hfresh
            go_wp2_with fail
            refine wp_region_grows 23 [IsV (.bool true), IsV (.bool true), IsV (.agg (AV (orW a b))), IsV (.int .i64 (nu : Nat)), IsV (.agg (AV (andW a b))), IsV (.int .i64 (nm : Nat)), IsV (.int .i64 (nu + nm : Nat)), IsV (.agg (AV (a))), IsV (.int .i64 (na : Nat)), IsV (.agg (AV (b))), IsV (.int .i64 (nb : Nat)), IsV (.int .i64 (na + nb : Nat)), IsV (.bool true), IsV (.bool true), IsV (.bool true), IsV (.agg (AV (a))), IsV (.int .i64 (na : Nat)), IsV (.agg (AV (notW a))), IsV (.int .i64 (nn : Nat)), IsV (.int .i64 (na + nn : Nat)), IsV (.bool true), IsV (.bool true), IsV (.bool true)] []
              [[], [(0, 119)], [(1, 120)], [(1, 120), (2, 121)], [(1, 120)], [(1, 120), (4, 123)], [(1, 120), (3, 122), (5, 124)], [(1, 120)], [(1, 120), (7, 126)], [(1, 120)], [(1, 120), (9, 128)], [(1, 120), (8, 127), (10, 129)], [(1, 120), (6, 125), (11, 130)], [(1, 120), (12, 131)], [(13, 132)], [(14, 133)], [(14, 133), (15, 134)], [(14, 133)], [(14, 133), (17, 136)], [(14, 133), (16, 135), (18, 137)], [(14, 133), (19, 138)], [(14, 133), (20, 139)], [(21, 140)]] [(0, 119), (1, 120), (2, 121), (3, 122), (4, 123), (5, 124), (6, 125), (7, 126), (8, 127), (9, 128), (10, 129), (11, 130), (12, 131), (13, 132), (14, 133), (15, 134), (16, 135), (17, 136), (18, 137), (19, 138), (20, 139), (21, 140), (22, 4)] (by kernel_rfl) (by kernel_rfl) rfl ?stable ⟨?o0, ?o1, ?o2, ?o3, ?o4, ?o5, ?o6, ?o7, ?o8, ?o9, ?o10, ?o11, ?o12, ?o13, ?o14, ?o15, ?o16, ?o17, ?o18, ?o19, ?o20, ?o21, ?o22, trivial⟩ ?fin
            case stable => exact ⟨IsV.stable _, IsV.stable _, IsV.stable _, IsV.stable _, IsV.stable _, IsV.stable _, IsV.stable _, IsV.stable _, IsV.stable _, IsV.stable _, IsV.stable _, IsV.stable _, IsV.stable _, IsV.stable _, IsV.stable _, IsV.stable _, IsV.stable _, IsV.stable _, IsV.stable _, IsV.stable _, IsV.stable _, IsV.stable _, IsV.stable _, trivial⟩
            case o0 =>
              intro vals w' hg hd
              clear hd
              simp only [putS, List.foldl_nil]
              clear hg
              go_simp
              exact (alive_c w').mono fun e w2 ⟨he, hb⟩ => ⟨_, he, hb, isV_mk _ _⟩
            case o1 =>
              intro vals w' hg hd
              have h0 : vals 0 = .bool true := hd.1
              clear hd
              simp only [putS, List.foldl_nil, List.foldl_cons, Act.put, List.setIfInBounds_toArray, List.set_cons_zero, List.set_cons_succ, h0]
              clear hg h0
              go_simp
              try go_bits
              exact isV_mk _ _
            case o2 =>
              intro vals w' hg hd
              have h1 : vals 1 = .bool true := hd.1
              clear hd
              simp only [putS, List.foldl_nil, List.foldl_cons, Act.put, List.setIfInBounds_toArray, List.set_cons_zero, List.set_cons_succ, h1]
              exact one_load_row (by rfl) _ _ rfl _ rfl _ _ _ _ (block_below' hg HU.out) Try.underlying24 rfl (i24 _) (isV_mk _ _)
            case o3 =>
              intro vals w' hg hd
              have h1 : vals 1 = .bool true := hd.1
              have h2 : vals 2 = .agg (AV (orW a b)) := hd.2.1
              clear hd
              simp only [putS, List.foldl_nil, List.foldl_cons, Act.put, List.setIfInBounds_toArray, List.set_cons_zero, List.set_cons_succ, h1, h2]
              clear hg h1 h2
              go_simp
              exact (len_c (orW a b) (orW_W64 ha hb) w').mono fun e w2 ⟨he, hb⟩ => ⟨_, he, hb, (by unfold IsV; rw [NU.out])⟩
            case o4 =>
              intro vals w' hg hd
              have h1 : vals 1 = .bool true := hd.1
              clear hd
              simp only [putS, List.foldl_nil, List.foldl_cons, Act.put, List.setIfInBounds_toArray, List.set_cons_zero, List.set_cons_succ, h1]
              exact one_load_row (by rfl) _ _ rfl _ rfl _ _ _ _ (block_below' hg HM.out) Try.underlying24 rfl (i24 _) (isV_mk _ _)
            case o5 =>
              intro vals w' hg hd
              have h1 : vals 1 = .bool true := hd.1
              have h4 : vals 4 = .agg (AV (andW a b)) := hd.2.1
              clear hd
              simp only [putS, List.foldl_nil, List.foldl_cons, Act.put, List.setIfInBounds_toArray, List.set_cons_zero, List.set_cons_succ, h1, h4]
              clear hg h1 h4
              go_simp
              exact (len_c (andW a b) (andW_W64 ha b) w').mono fun e w2 ⟨he, hb⟩ => ⟨_, he, hb, (by unfold IsV; rw [NM.out])⟩
            case o6 =>
              intro vals w' hg hd
              have h1 : vals 1 = .bool true := hd.1
              have h3 : vals 3 = .int .i64 (nu : Nat) := hd.2.1
              have h5 : vals 5 = .int .i64 (nm : Nat) := hd.2.2.1
              clear hd
              simp only [putS, List.foldl_nil, List.foldl_cons, Act.put, List.setIfInBounds_toArray, List.set_cons_zero, List.set_cons_succ, h1, h3, h5]
              clear hg h1 h3 h5
              go_simp
              try go_bits
              exact isV_mk _ _
            case o7 =>
              intro vals w' hg hd
              have h1 : vals 1 = .bool true := hd.1
              clear hd
              simp only [putS, List.foldl_nil, List.foldl_cons, Act.put, List.setIfInBounds_toArray, List.set_cons_zero, List.set_cons_succ, h1]
              exact one_load_row (by rfl) _ _ rfl _ rfl _ _ _ _ (block_below' hg HA.out) Try.underlying24 rfl (i24 _) (isV_mk _ _)
            case o8 =>
              intro vals w' hg hd
              have h1 : vals 1 = .bool true := hd.1
              have h7 : vals 7 = .agg (AV (a)) := hd.2.1
              clear hd
              simp only [putS, List.foldl_nil, List.foldl_cons, Act.put, List.setIfInBounds_toArray, List.set_cons_zero, List.set_cons_succ, h1, h7]
              clear hg h1 h7
              go_simp
              exact (len_c (a) (ha) w').mono fun e w2 ⟨he, hb⟩ => ⟨_, he, hb, (by unfold IsV; rw [NA.out])⟩
            case o9 =>
              intro vals w' hg hd
              have h1 : vals 1 = .bool true := hd.1
              clear hd
              simp only [putS, List.foldl_nil, List.foldl_cons, Act.put, List.setIfInBounds_toArray, List.set_cons_zero, List.set_cons_succ, h1]
              exact one_load_row (by rfl) _ _ rfl _ rfl _ _ _ _ (block_below' hg HB.out) Try.underlying24 rfl (i24 _) (isV_mk _ _)
            case o10 =>
              intro vals w' hg hd
              have h1 : vals 1 = .bool true := hd.1
              have h9 : vals 9 = .agg (AV (b)) := hd.2.1
              clear hd
              simp only [putS, List.foldl_nil, List.foldl_cons, Act.put, List.setIfInBounds_toArray, List.set_cons_zero, List.set_cons_succ, h1, h9]
              clear hg h1 h9
              go_simp
              exact (len_c (b) (hb) w').mono fun e w2 ⟨he, hb⟩ => ⟨_, he, hb, (by unfold IsV; rw [NB.out])⟩
            case o11 =>
              intro vals w' hg hd
              have h1 : vals 1 = .bool true := hd.1
              have h8 : vals 8 = .int .i64 (na : Nat) := hd.2.1
              have h10 : vals 10 = .int .i64 (nb : Nat) := hd.2.2.1
              clear hd
              simp only [putS, List.foldl_nil, List.foldl_cons, Act.put, List.setIfInBounds_toArray, List.set_cons_zero, List.set_cons_succ, h1, h8, h10]
              clear hg h1 h8 h10
              go_simp
              try go_bits
              exact isV_mk _ _
            case o12 =>
              intro vals w' hg hd
              have h1 : vals 1 = .bool true := hd.1
              have h6 : vals 6 = .int .i64 (nu + nm : Nat) := hd.2.1
              have h11 : vals 11 = .int .i64 (na + nb : Nat) := hd.2.2.1
              clear hd
              simp only [putS, List.foldl_nil, List.foldl_cons, Act.put, List.setIfInBounds_toArray, List.set_cons_zero, List.set_cons_succ, h1, h6, h11]
              have hs1 := NS1.out
              clear hg h1 h6 h11
              go_simp
              exact congrArg Value.bool (by first | (simp; omega) | simp)
            case o13 =>
              intro vals w' hg hd
              have h1 : vals 1 = .bool true := hd.1
              have h12 : vals 12 = .bool true := hd.2.1
              clear hd
              simp only [putS, List.foldl_nil, List.foldl_cons, Act.put, List.setIfInBounds_toArray, List.set_cons_zero, List.set_cons_succ, h1, h12]
              clear hg h1 h12
              go_simp
              try go_bits
              exact isV_mk _ _
            case o14 =>
              intro vals w' hg hd
              have h13 : vals 13 = .bool true := hd.1
              clear hd
              simp only [putS, List.foldl_nil, List.foldl_cons, Act.put, List.setIfInBounds_toArray, List.set_cons_zero, List.set_cons_succ, h13]
              clear hg h13
              go_simp
              try go_bits
              exact isV_mk _ _
            case o15 =>
              intro vals w' hg hd
              have h14 : vals 14 = .bool true := hd.1
              clear hd
              simp only [putS, List.foldl_nil, List.foldl_cons, Act.put, List.setIfInBounds_toArray, List.set_cons_zero, List.set_cons_succ, h14]
              exact one_load_row (by rfl) _ _ rfl _ rfl _ _ _ _ (block_below' hg HA.out) Try.underlying24 rfl (i24 _) (isV_mk _ _)
            case o16 =>
              intro vals w' hg hd
              have h14 : vals 14 = .bool true := hd.1
              have h15 : vals 15 = .agg (AV (a)) := hd.2.1
              clear hd
              simp only [putS, List.foldl_nil, List.foldl_cons, Act.put, List.setIfInBounds_toArray, List.set_cons_zero, List.set_cons_succ, h14, h15]
              clear hg h14 h15
              go_simp
              exact (len_c (a) (ha) w').mono fun e w2 ⟨he, hb⟩ => ⟨_, he, hb, (by unfold IsV; rw [NA.out])⟩
            case o17 =>
              intro vals w' hg hd
              have h14 : vals 14 = .bool true := hd.1
              clear hd
              simp only [putS, List.foldl_nil, List.foldl_cons, Act.put, List.setIfInBounds_toArray, List.set_cons_zero, List.set_cons_succ, h14]
              exact one_load_row (by rfl) _ _ rfl _ rfl _ _ _ _ (block_below' hg HN.out) Try.underlying24 rfl (i24 _) (isV_mk _ _)
            case o18 =>
              intro vals w' hg hd
              have h14 : vals 14 = .bool true := hd.1
              have h17 : vals 17 = .agg (AV (notW a)) := hd.2.1
              clear hd
              simp only [putS, List.foldl_nil, List.foldl_cons, Act.put, List.setIfInBounds_toArray, List.set_cons_zero, List.set_cons_succ, h14, h17]
              clear hg h14 h17
              go_simp
              exact (len_c (notW a) (notW_W64 a) w').mono fun e w2 ⟨he, hb⟩ => ⟨_, he, hb, (by unfold IsV; rw [NN.out])⟩
            case o19 =>
              intro vals w' hg hd
              have h14 : vals 14 = .bool true := hd.1
              have h16 : vals 16 = .int .i64 (na : Nat) := hd.2.1
              have h18 : vals 18 = .int .i64 (nn : Nat) := hd.2.2.1
              clear hd
              simp only [putS, List.foldl_nil, List.foldl_cons, Act.put, List.setIfInBounds_toArray, List.set_cons_zero, List.set_cons_succ, h14, h16, h18]
              clear hg h14 h16 h18
              go_simp
              try go_bits
              exact isV_mk _ _
            case o20 =>
              intro vals w' hg hd
              have h14 : vals 14 = .bool true := hd.1
              have h19 : vals 19 = .int .i64 (na + nn : Nat) := hd.2.1
              clear hd
              simp only [putS, List.foldl_nil, List.foldl_cons, Act.put, List.setIfInBounds_toArray, List.set_cons_zero, List.set_cons_succ, h14, h19]
              have hs1 := NS2.out
              clear hg h14 h19
              go_simp
              exact congrArg Value.bool (by first | (simp; omega) | simp)
            case o21 =>
              intro vals w' hg hd
              have h14 : vals 14 = .bool true := hd.1
              have h20 : vals 20 = .bool true := hd.2.1
              clear hd
              simp only [putS, List.foldl_nil, List.foldl_cons, Act.put, List.setIfInBounds_toArray, List.set_cons_zero, List.set_cons_succ, h14, h20]
              clear hg h14 h20
              go_simp
              try go_bits
              exact isV_mk _ _
            case o22 =>
              intro vals w' hg hd
              have h21 : vals 21 = .bool true := hd.1
              clear hd
              simp only [putS, List.foldl_nil, List.foldl_cons, Act.put, List.setIfInBounds_toArray, List.set_cons_zero, List.set_cons_succ, h21]
              clear hg h21
              go_simp
              try go_bits
              exact isV_mk _ _
            case fin =>
              intro vals w' hg hd hfresh
              have h0 : vals 0 = .bool true := hd.1
              have h1 : vals 1 = .bool true := hd.2.1
              have h2 : vals 2 = .agg (AV (orW a b)) := hd.2.2.1
              have h3 : vals 3 = .int .i64 (nu : Nat) := hd.2.2.2.1
              have h4 : vals 4 = .agg (AV (andW a b)) := hd.2.2.2.2.1
              have h5 : vals 5 = .int .i64 (nm : Nat) := hd.2.2.2.2.2.1
              have h6 : vals 6 = .int .i64 (nu + nm : Nat) := hd.2.2.2.2.2.2.1
              have h7 : vals 7 = .agg (AV (a)) := hd.2.2.2.2.2.2.2.1
              have h8 : vals 8 = .int .i64 (na : Nat) := hd.2.2.2.2.2.2.2.2.1
              have h9 : vals 9 = .agg (AV (b)) := hd.2.2.2.2.2.2.2.2.2.1
              have h10 : vals 10 = .int .i64 (nb : Nat) := hd.2.2.2.2.2.2.2.2.2.2.1
              have h11 : vals 11 = .int .i64 (na + nb : Nat) := hd.2.2.2.2.2.2.2.2.2.2.2.1
              have h12 : vals 12 = .bool true := hd.2.2.2.2.2.2.2.2.2.2.2.2.1
              have h13 : vals 13 = .bool true := hd.2.2.2.2.2.2.2.2.2.2.2.2.2.1
              have h14 : vals 14 = .bool true := hd.2.2.2.2.2.2.2.2.2.2.2.2.2.2.1
              have h15 : vals 15 = .agg (AV (a)) := hd.2.2.2.2.2.2.2.2.2.2.2.2.2.2.2.1
              have h16 : vals 16 = .int .i64 (na : Nat) := hd.2.2.2.2.2.2.2.2.2.2.2.2.2.2.2.2.1
              have h17 : vals 17 = .agg (AV (notW a)) := hd.2.2.2.2.2.2.2.2.2.2.2.2.2.2.2.2.2.1
              have h18 : vals 18 = .int .i64 (nn : Nat) := hd.2.2.2.2.2.2.2.2.2.2.2.2.2.2.2.2.2.2.1
              have h19 : vals 19 = .int .i64 (na + nn : Nat) := hd.2.2.2.2.2.2.2.2.2.2.2.2.2.2.2.2.2.2.2.1
              have h20 : vals 20 = .bool true := hd.2.2.2.2.2.2.2.2.2.2.2.2.2.2.2.2.2.2.2.2.1
              have h21 : vals 21 = .bool true := hd.2.2.2.2.2.2.2.2.2.2.2.2.2.2.2.2.2.2.2.2.2.1
              have h22 : vals 22 = .bool true := hd.2.2.2.2.2.2.2.2.2.2.2.2.2.2.2.2.2.2.2.2.2.2.1
              clear hd
              simp only [putS, List.foldl_nil, List.foldl_cons, Act.put, List.setIfInBounds_toArray, List.set_cons_zero, List.set_cons_succ, List.drop_succ_cons, List.drop_zero, h0, h1, h2, h3, h4, h5, h6, h7, h8, h9, h10, h11, h12, h13, h14, h15, h16, h17, h18, h19, h20, h21, h22]
              have HEnd := Lib.hid (HE.out.trans hg)
              clear hg h0 h1 h2 h3 h4 h5 h6 h7 h8 h9 h10 h11 h12 h13 h14 h15 h16 h17 h18 h19 h20 h21 h22 hfresh
              go_wp2
              go_ret
              exact ⟨rfl, HEnd.out⟩
theorem algebra_walk (a b c : Nat → Nat) (ha : W64 a) (hb : W64 b) (hc : W64 c) (x : Nat) (hx : x < 256) (w : World) :
    Calls Try.prog 8 #[.agg (ABC a b c), .int .u8 x] w fun e w' => e = .returned (.bool true) ∧ Below w.heap.size w w' := by
  cases hp : bit a x <;> cases hq : bit b x
  · exact algebra_ff a b c ha hb hc x hx w hp hq
  · exact algebra_ft a b c ha hb hc x hx w hp hq
  · exact algebra_tf a b c ha hb hc x hx w hp hq
  · exact algebra_tt a b c ha hb hc x hx w hp hq
end Go.Proofs.Ytaagfmpolcpimaa
