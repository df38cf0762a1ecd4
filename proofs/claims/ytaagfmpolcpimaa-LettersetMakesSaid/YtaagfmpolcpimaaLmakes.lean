/-
  LettersetMakes: the law's walk: it returns true and writes nothing that was there. Conditions: letters below 256.
-/
import Derived.Test.YtaagfmpolcpimaaWe
import Derived.Test.YtaagfmpolcpimaaEq
namespace Go.Proofs.Ytaagfmpolcpimaa
open Go.RowKit
attribute [local go_sem] OneStep growAt growUpon
set_option maxHeartbeats 4000000
set_option maxRecDepth 100000
set_option linter.unusedSimpArgs false
set_option linter.unusedVariables false

theorem of_nil_any (a : Option Addr) (cap : Nat) (w : World) :
    Calls Try.prog 13 #[.slice a 0 cap] w fun e w' => e = .returned (.agg (AV (ofL []))) ∧ Below w.heap.size w w' := by
  go_enter Try.func13, Try.ntmps13
  go_wp2_with (refine wpList_alloc_row rfl 24 rfl _ z24 ?_; simp only [Act.put, List.setIfInBounds_toArray, List.set_cons_zero, List.set_cons_succ, World.size_alloc])
  go_loopw [5, 8] (fun _ i wr => i = .int .i64 0 ∧ wr = ((w.alloc (.cells (AV fun _ => 0) 24)).alloc (.cells (AV (ofL [])) 24))) (fun _ _ _ => 0)
  case atStart => exact ⟨rfl, rfl⟩
  case round =>
    obtain ⟨rfl, rfl⟩ := hrel
    go_wp2_with (first | (refine wpList_load_row rfl 24 _ rfl _ rfl _ _ _ _ (heap_at _ _ _ (by simp)) Try.underlying24 rfl (i24 _) ?_; simp only [Act.put, List.setIfInBounds_toArray, List.set_cons_zero, List.set_cons_succ]) | (refine wpList_store_row rfl 24 _ _ rfl _ rfl _ rfl _ _ ((heap_past _ _ _ (by simp)).trans (heap_at _ _ _ rfl)) (i24 _) (by rw [AV_size, AV_size]) (AV_one _) ?_; rw [setRow_alloc_past _ _ _ _ (by simp), setRow_alloc _ _ _ _ _ rfl]; simp only [Act.put, List.setIfInBounds_toArray, List.set_cons_zero, List.set_cons_succ]))
    exact bodyPost_ret (results_cell_row rfl _ _ _ _ _ _ _ rfl ((heap_past _ _ _ (by simp)).trans (heap_at _ _ _ rfl)) Try.underlying24 rfl (i24 _)) rfl
        ⟨rfl, ((Below.refl _ _).alloc (by simp) _).alloc (by simp) _⟩

theorem makes_nil (a : Option Addr) (cap : Nat) (lo hi : Nat) (h1 : lo < 256) (h2 : hi < 256) (w : World) : Calls Try.prog 6 #[.slice a 0 cap, .int .u8 lo, .int .u8 hi] w fun e w' => e = .returned (.bool true) ∧ Below w.heap.size w w' := by
  go_enter Try.func6, Try.ntmps6
  go_wp2_with (first | (refine wpList_alloc_row rfl 29 rfl _ z29 ?_; simp only [Act.put, List.setIfInBounds_toArray, List.set_cons_zero, List.set_cons_succ, World.size_alloc]) | fail)
  go_loopw [10, 14] (fun _ i wr => i = .int .i64 0 ∧ wr = (w.alloc (.cells (BV fun _ => false) 29)).alloc (.cells (BV fun _ => false) 29)) (fun _ _ _ => 0)
  case atStart => exact ⟨rfl, rfl⟩
  case round =>
    obtain ⟨rfl, rfl⟩ := hrel
    go_wp2_with fail
    go_loopw [11] (fun i wr => ∃ k : Nat, k ≤ 256 ∧ i = .int .i64 k ∧ wr = (w.alloc (.cells (BV (fun _ => false)) 29)).alloc (.cells (BV (fun j => decide (j < k) && (decide (lo ≤ j) && decide (j ≤ hi)))) 29)) (fun i _ => 256 - (intOf i).toNat)
    case atStart => exact ⟨0, by omega, rfl, by rw [BV_congr (m := (fun j => decide (j < 0) && (decide (lo ≤ j) && decide (j ≤ hi)))) (n := fun _ => false) fun j _ => by simp]⟩
    case round =>
    obtain ⟨k, hk, rfl, rfl⟩ := hrel
    by_cases hlt2 : k < 256
    · have hm := BV_get (fun j => decide (j < k) && (decide (lo ≤ j) && decide (j ≤ hi))) k hlt2
      generalize (decide (k < k) && (decide (lo ≤ k) && decide (k ≤ hi))) = r1 at hm
      have hset : ∀ v, v = (decide (lo ≤ k) && decide (k ≤ hi)) → (BV (fun j => decide (j < k) && (decide (lo ≤ j) && decide (j ≤ hi)))).setIfInBounds k (.bool v) = BV (fun j => decide (j < k + 1) && (decide (lo ≤ j) && decide (j ≤ hi))) := fun v hv => by
        rw [BV_set]
        refine BV_congr fun j _ => ?_
        by_cases h : j = k
        · subst h; simp [hv]
        · have e : decide (j < k + 1) = decide (j < k) := by simp; omega
          simp [h, e]
      have HS := Lib.hid hset
      clear hset
      by_cases c1 : lo ≤ k
      · by_cases c2 : k ≤ hi
        · go_wp2
          go_roundw
          case rel => exact ⟨k + 1, by omega, by go_num, by rw [HS.out true (by simp [c1, c2])]⟩
          case measure => simp [intOf]; omega
        · go_wp2
          go_roundw
          case rel => exact ⟨k + 1, by omega, by go_num, by rw [HS.out false (by simp [c2])]⟩
          case measure => simp [intOf]; omega
      · go_wp2
        go_roundw
        case rel => exact ⟨k + 1, by omega, by go_num, by rw [HS.out false (by simp [c1])]⟩
        case measure => simp [intOf]; omega
    · obtain rfl : k = 256 := by omega
      go_wp2_with fail
      obtain ⟨B0, hB0⟩ : ∃ B0, B0 = w.heap.size := ⟨_, rfl⟩
      rw [← hB0]
      generalize hmm : (fun _ => false) = mm
      generalize hnn : (fun j => decide (j < 256) && (decide (lo ≤ j) && decide (j ≤ hi))) = nn
      have HE1 : Hid (∀ i, i < 256 → bit (ofL []) i = mm i) := Lib.hid (by rw [← hmm]; exact fun i _ => by rw [bit_ofL]; simp)
      have HE2 : Hid (∀ i, i < 256 → bit (btw lo (hi + 1 - lo)) i = nn i) := Lib.hid (by
        rw [← hnn]; intro i hi'; rw [bit_btw, Bool.eq_iff_iff]; simp; omega)
      have H0 := Lib.hid ((heap_past (w.alloc (.cells (BV mm) 29)) (.cells (BV nn) 29) B0 (by simp; omega)).trans (heap_at w (.cells (BV mm) 29) B0 hB0))
      have H1 := Lib.hid (heap_at (w.alloc (.cells (BV mm) 29)) (.cells (BV nn) 29) (B0 + 1) (by simp; omega))
      have HE : Hid (Grew w ((w.alloc (.cells (BV mm) 29)).alloc (.cells (BV nn) 29))) := Lib.hid ((grew_alloc _ _).trans (grew_alloc _ _))
      generalize (w.alloc (.cells (BV mm) 29)).alloc (.cells (BV nn) 29) = w2 at H0 H1 HE ⊢
      clear hB0 hmm hnn
      refine wp_region_grows 17 [IsV (.bool true), IsV (.bool true), IsV (.slice a 0 cap), IsV (.agg (AV (ofL []))), IsV (.agg (BV (bit (ofL [])))), IsV (.agg (BV mm)), IsV (.bool true), IsV (.bool true), IsV (.bool true), IsV (.int .u8 lo), IsV (.int .u8 hi), IsV (.agg (AV (btw lo (hi + 1 - lo)))), IsV (.agg (BV (bit (btw lo (hi + 1 - lo))))), IsV (.agg (BV nn)), IsV (.bool true), IsV (.bool true), IsV (.bool true)] []
        [[], [(0, 37)], [(1, 38)], [(1, 38), (2, 39)], [(1, 38), (3, 40)], [(1, 38)], [(1, 38), (4, 41), (5, 42)], [(1, 38), (6, 43)], [(7, 44)], [(8, 45)], [(8, 45)], [(8, 45), (9, 46), (10, 47)], [(8, 45), (11, 48)], [(8, 45)], [(8, 45), (12, 49), (13, 50)], [(8, 45), (14, 51)], [(15, 52)]] [(0, 37), (1, 38), (2, 39), (3, 40), (4, 41), (5, 42), (6, 43), (7, 44), (8, 45), (9, 46), (10, 47), (11, 48), (12, 49), (13, 50), (14, 51), (15, 52), (16, 6)] (by kernel_rfl) (by kernel_rfl) rfl ?stable ⟨?o0, ?o1, ?o2, ?o3, ?o4, ?o5, ?o6, ?o7, ?o8, ?o9, ?o10, ?o11, ?o12, ?o13, ?o14, ?o15, ?o16, trivial⟩ ?fin
      case stable => exact ⟨IsV.stable _, IsV.stable _, IsV.stable _, IsV.stable _, IsV.stable _, IsV.stable _, IsV.stable _, IsV.stable _, IsV.stable _, IsV.stable _, IsV.stable _, IsV.stable _, IsV.stable _, IsV.stable _, IsV.stable _, IsV.stable _, IsV.stable _, trivial⟩
      case o0 =>
        rintro vals w' hg -
        simp only [putS, List.foldl_nil]
        clear hg
        go_simp
        exact (alive_c w').mono fun e w2 ⟨he, hb⟩ => ⟨_, he, hb, isV_mk _ _⟩
      case o1 =>
        rintro vals w' hg ⟨(h0 : vals _ = _), _⟩
        simp only [putS, List.foldl_nil, List.foldl_cons, Act.put, List.setIfInBounds_toArray, List.set_cons_zero, List.set_cons_succ, h0]
        clear hg h0
        go_simp
        try go_bits
        exact isV_mk _ _
      case o2 =>
        rintro vals w' hg ⟨(h1 : vals _ = _), _⟩
        simp only [putS, List.foldl_nil, List.foldl_cons, Act.put, List.setIfInBounds_toArray, List.set_cons_zero, List.set_cons_succ, h1]
        clear hg h1
        go_simp
        try go_bits
        exact isV_mk _ _
      case o3 =>
        rintro vals w' hg ⟨(h1 : vals _ = _), (h2 : vals _ = _), _⟩
        simp only [putS, List.foldl_nil, List.foldl_cons, Act.put, List.setIfInBounds_toArray, List.set_cons_zero, List.set_cons_succ, h1, h2]
        have hgg := Lib.hid hg
        clear hg h1 h2
        go_simp
        exact (of_nil_any a cap w').mono fun e w2 ⟨he, hb⟩ => ⟨_, he, hb, isV_mk _ _⟩
      case o4 =>
        rintro vals w' hg ⟨(h1 : vals _ = _), (h3 : vals _ = _), _⟩
        simp only [putS, List.foldl_nil, List.foldl_cons, Act.put, List.setIfInBounds_toArray, List.set_cons_zero, List.set_cons_succ, h1, h3]
        clear hg h1 h3
        go_simp
        exact (refOf_c _ (ofL_W64 _) w').mono fun e w2 ⟨he, hb⟩ => ⟨_, he, hb, isV_mk _ _⟩
      case o5 =>
        rintro vals w' hg ⟨(h1 : vals _ = _), _⟩
        simp only [putS, List.foldl_nil, List.foldl_cons, Act.put, List.setIfInBounds_toArray, List.set_cons_zero, List.set_cons_succ, h1]
        exact one_load_row (by rfl) _ _ rfl _ rfl _ _ _ _ (block_below' hg H0.out) Try.underlying29 rfl (i29 _) (isV_mk _ _)
      case o6 =>
        rintro vals w' hg ⟨(h1 : vals _ = _), (h4 : vals _ = _), (h5 : vals _ = _), _⟩
        simp only [putS, List.foldl_nil, List.foldl_cons, Act.put, List.setIfInBounds_toArray, List.set_cons_zero, List.set_cons_succ, h1, h4, h5]
        have heq0 := fun w => eq_BV_true HE1.out w
        clear hg h1 h4 h5
        go_simp
        exact isV_mk _ _
      case o7 =>
        rintro vals w' hg ⟨(h1 : vals _ = _), (h6 : vals _ = _), _⟩
        simp only [putS, List.foldl_nil, List.foldl_cons, Act.put, List.setIfInBounds_toArray, List.set_cons_zero, List.set_cons_succ, h1, h6]
        clear hg h1 h6
        go_simp
        try go_bits
        exact isV_mk _ _
      case o8 =>
        rintro vals w' hg ⟨(h7 : vals _ = _), _⟩
        simp only [putS, List.foldl_nil, List.foldl_cons, Act.put, List.setIfInBounds_toArray, List.set_cons_zero, List.set_cons_succ, h7]
        clear hg h7
        go_simp
        try go_bits
        exact isV_mk _ _
      case o9 =>
        rintro vals w' hg ⟨(h8 : vals _ = _), _⟩
        simp only [putS, List.foldl_nil, List.foldl_cons, Act.put, List.setIfInBounds_toArray, List.set_cons_zero, List.set_cons_succ, h8]
        clear hg h8
        go_simp
        try go_bits
        exact isV_mk _ _
      case o10 =>
        rintro vals w' hg ⟨(h8 : vals _ = _), _⟩
        simp only [putS, List.foldl_nil, List.foldl_cons, Act.put, List.setIfInBounds_toArray, List.set_cons_zero, List.set_cons_succ, h8]
        clear hg h8
        go_simp
        try go_bits
        exact isV_mk _ _
      case o11 =>
        rintro vals w' hg ⟨(h8 : vals _ = _), (h9 : vals _ = _), (h10 : vals _ = _), _⟩
        simp only [putS, List.foldl_nil, List.foldl_cons, Act.put, List.setIfInBounds_toArray, List.set_cons_zero, List.set_cons_succ, h8, h9, h10]
        clear hg h8 h9 h10
        go_simp
        exact (between_c lo hi h1 h2 w').mono fun e w2 ⟨he, hb⟩ => ⟨_, he, hb, isV_mk _ _⟩
      case o12 =>
        rintro vals w' hg ⟨(h8 : vals _ = _), (h11 : vals _ = _), _⟩
        simp only [putS, List.foldl_nil, List.foldl_cons, Act.put, List.setIfInBounds_toArray, List.set_cons_zero, List.set_cons_succ, h8, h11]
        clear hg h8 h11
        go_simp
        exact (refOf_c _ (btw_W64 _ _) w').mono fun e w2 ⟨he, hb⟩ => ⟨_, he, hb, isV_mk _ _⟩
      case o13 =>
        rintro vals w' hg ⟨(h8 : vals _ = _), _⟩
        simp only [putS, List.foldl_nil, List.foldl_cons, Act.put, List.setIfInBounds_toArray, List.set_cons_zero, List.set_cons_succ, h8]
        exact one_load_row (by rfl) _ _ rfl _ rfl _ _ _ _ (block_below' hg H1.out) Try.underlying29 rfl (i29 _) (isV_mk _ _)
      case o14 =>
        rintro vals w' hg ⟨(h8 : vals _ = _), (h12 : vals _ = _), (h13 : vals _ = _), _⟩
        simp only [putS, List.foldl_nil, List.foldl_cons, Act.put, List.setIfInBounds_toArray, List.set_cons_zero, List.set_cons_succ, h8, h12, h13]
        have heq0 := fun w => eq_BV_true HE2.out w
        clear hg h8 h12 h13
        go_simp
        exact isV_mk _ _
      case o15 =>
        rintro vals w' hg ⟨(h8 : vals _ = _), (h14 : vals _ = _), _⟩
        simp only [putS, List.foldl_nil, List.foldl_cons, Act.put, List.setIfInBounds_toArray, List.set_cons_zero, List.set_cons_succ, h8, h14]
        clear hg h8 h14
        go_simp
        try go_bits
        exact isV_mk _ _
      case o16 =>
        rintro vals w' hg ⟨(h15 : vals _ = _), _⟩
        simp only [putS, List.foldl_nil, List.foldl_cons, Act.put, List.setIfInBounds_toArray, List.set_cons_zero, List.set_cons_succ, h15]
        clear hg h15
        go_simp
        try go_bits
        exact isV_mk _ _
      case fin =>
        rintro vals w' hg ⟨(h0 : vals _ = _), (h1 : vals _ = _), (h2 : vals _ = _), (h3 : vals _ = _), (h4 : vals _ = _), (h5 : vals _ = _), (h6 : vals _ = _), (h7 : vals _ = _), (h8 : vals _ = _), (h9 : vals _ = _), (h10 : vals _ = _), (h11 : vals _ = _), (h12 : vals _ = _), (h13 : vals _ = _), (h14 : vals _ = _), (h15 : vals _ = _), (h16 : vals _ = _), _⟩ hfresh
        simp only [putS, List.foldl_nil, List.foldl_cons, Act.put, List.setIfInBounds_toArray, List.set_cons_zero, List.set_cons_succ, List.drop_succ_cons, List.drop_zero, h0, h1, h2, h3, h4, h5, h6, h7, h8, h9, h10, h11, h12, h13, h14, h15, h16]
        have HEnd := Lib.hid (HE.out.trans hg)
        clear hg hfresh h0 h1 h2 h3 h4 h5 h6 h7 h8 h9 h10 h11 h12 h13 h14 h15 h16
        go_wp2
        go_ret
        exact ⟨rfl, HEnd.out⟩

theorem makes_some (zs : List Nat) (hz : ∀ z ∈ zs, z < 256) (hl : zs.length ≤ 9223372036854775807) (b o cap : Nat) (lo hi : Nat) (h1 : lo < 256) (h2 : hi < 256) (w : World) (HC : Hid (∀ i, i < zs.length → w.cell? ⟨b, o + i, none⟩ = some (.int .u8 (zs.getD i 0 : Nat)))) (hb : b < w.heap.size) : Calls Try.prog 6 #[.slice (some ⟨b, o, none⟩) zs.length cap, .int .u8 lo, .int .u8 hi] w fun e w' => e = .returned (.bool true) ∧ Below w.heap.size w w' := by
  go_enter Try.func6, Try.ntmps6
  go_wp2_with (first | (refine wpList_alloc_row rfl 29 rfl _ z29 ?_; simp only [Act.put, List.setIfInBounds_toArray, List.set_cons_zero, List.set_cons_succ, World.size_alloc]) | fail)
  go_loopw [10, 14] (fun _ i wr => ∃ k : Nat, k ≤ zs.length ∧ i = .int .i64 k ∧ wr = (w.alloc (.cells (BV (fun j => decide (j ∈ zs.take k))) 29)).alloc (.cells (BV fun _ => false) 29)) (fun _ i _ => zs.length - (intOf i).toNat)
  case atStart => exact ⟨0, by omega, rfl, by rw [List.take_zero]; rfl⟩
  case round =>
    obtain ⟨k, hk, rfl, rfl⟩ := hrel
    by_cases hlt : k < zs.length
    · obtain ⟨z, hzz⟩ : ∃ z, z = zs.getD k 0 := ⟨_, rfl⟩
      have hz2 : z < 256 := hz _ (by rw [hzz]; simp [List.getD, hlt])
      have hcell := HC.out k hlt
      rw [← hzz] at hcell
      have hm := BV_get (fun j => decide (j ∈ zs.take k)) z hz2
      generalize decide (z ∈ zs.take k) = r1 at hm
      have hz0 : (0 : Int) ≤ z := by omega
      have hz1 : (z : Int) < 256 := by omega
      have HZ := Lib.hid hzz
      clear hzz
      go_wp2
      go_roundw
      case rel =>
        refine ⟨k + 1, by omega, by go_num, ?_⟩
        rw [BV_set]
        congr 3
        refine BV_congr fun j _ => ?_
        rw [take_snoc' zs k hlt, ← HZ.out]
        by_cases h : j = z <;> simp [h]
      case measure => simp [intOf]; omega
    obtain rfl : k = zs.length := by omega
    rw [List.take_length]
    go_wp2_with fail
    go_loopw [11] (fun i wr => ∃ k : Nat, k ≤ 256 ∧ i = .int .i64 k ∧ wr = (w.alloc (.cells (BV (fun j => decide (j ∈ zs))) 29)).alloc (.cells (BV (fun j => decide (j < k) && (decide (lo ≤ j) && decide (j ≤ hi)))) 29)) (fun i _ => 256 - (intOf i).toNat)
    case atStart => exact ⟨0, by omega, rfl, by rw [BV_congr (m := (fun j => decide (j < 0) && (decide (lo ≤ j) && decide (j ≤ hi)))) (n := fun _ => false) fun j _ => by simp]⟩
    case round =>
    obtain ⟨k, hk, rfl, rfl⟩ := hrel
    by_cases hlt2 : k < 256
    · have hm := BV_get (fun j => decide (j < k) && (decide (lo ≤ j) && decide (j ≤ hi))) k hlt2
      generalize (decide (k < k) && (decide (lo ≤ k) && decide (k ≤ hi))) = r1 at hm
      have hset : ∀ v, v = (decide (lo ≤ k) && decide (k ≤ hi)) → (BV (fun j => decide (j < k) && (decide (lo ≤ j) && decide (j ≤ hi)))).setIfInBounds k (.bool v) = BV (fun j => decide (j < k + 1) && (decide (lo ≤ j) && decide (j ≤ hi))) := fun v hv => by
        rw [BV_set]
        refine BV_congr fun j _ => ?_
        by_cases h : j = k
        · subst h; simp [hv]
        · have e : decide (j < k + 1) = decide (j < k) := by simp; omega
          simp [h, e]
      have HS := Lib.hid hset
      clear hset
      by_cases c1 : lo ≤ k
      · by_cases c2 : k ≤ hi
        · go_wp2
          go_roundw
          case rel => exact ⟨k + 1, by omega, by go_num, by rw [HS.out true (by simp [c1, c2])]⟩
          case measure => simp [intOf]; omega
        · go_wp2
          go_roundw
          case rel => exact ⟨k + 1, by omega, by go_num, by rw [HS.out false (by simp [c2])]⟩
          case measure => simp [intOf]; omega
      · go_wp2
        go_roundw
        case rel => exact ⟨k + 1, by omega, by go_num, by rw [HS.out false (by simp [c1])]⟩
        case measure => simp [intOf]; omega
    · obtain rfl : k = 256 := by omega
      go_wp2_with fail
      obtain ⟨B0, hB0⟩ : ∃ B0, B0 = w.heap.size := ⟨_, rfl⟩
      rw [← hB0]
      generalize hmm : (fun j => decide (j ∈ zs)) = mm
      generalize hnn : (fun j => decide (j < 256) && (decide (lo ≤ j) && decide (j ≤ hi))) = nn
      have HE1 : Hid (∀ i, i < 256 → bit (ofL zs) i = mm i) := Lib.hid (by rw [← hmm]; exact fun i _ => bit_ofL zs i)
      have HE2 : Hid (∀ i, i < 256 → bit (btw lo (hi + 1 - lo)) i = nn i) := Lib.hid (by
        rw [← hnn]; intro i hi'; rw [bit_btw, Bool.eq_iff_iff]; simp; omega)
      have H0 := Lib.hid ((heap_past (w.alloc (.cells (BV mm) 29)) (.cells (BV nn) 29) B0 (by simp; omega)).trans (heap_at w (.cells (BV mm) 29) B0 hB0))
      have H1 := Lib.hid (heap_at (w.alloc (.cells (BV mm) 29)) (.cells (BV nn) 29) (B0 + 1) (by simp; omega))
      have HE : Hid (Grew w ((w.alloc (.cells (BV mm) 29)).alloc (.cells (BV nn) 29))) := Lib.hid ((grew_alloc _ _).trans (grew_alloc _ _))
      generalize (w.alloc (.cells (BV mm) 29)).alloc (.cells (BV nn) 29) = w2 at H0 H1 HE ⊢
      have HC2 : Hid (∀ i, i < zs.length → w2.cell? ⟨b, o + i, none⟩ = some (.int .u8 (zs.getD i 0 : Nat))) := Lib.hid fun i hi => (HE.out.cell (p := ⟨b, o + i, none⟩) hb).trans (HC.out i hi)
      have hb2 : b < w2.heap.size := by have := HE.out.size; omega
      clear HC
      clear hB0 hmm hnn
      refine wp_region_grows 17 [IsV (.bool true), IsV (.bool true), IsV (.slice (some ⟨b, o, none⟩) zs.length cap), IsV (.agg (AV (ofL zs))), IsV (.agg (BV (bit (ofL zs)))), IsV (.agg (BV mm)), IsV (.bool true), IsV (.bool true), IsV (.bool true), IsV (.int .u8 lo), IsV (.int .u8 hi), IsV (.agg (AV (btw lo (hi + 1 - lo)))), IsV (.agg (BV (bit (btw lo (hi + 1 - lo))))), IsV (.agg (BV nn)), IsV (.bool true), IsV (.bool true), IsV (.bool true)] []
        [[], [(0, 37)], [(1, 38)], [(1, 38), (2, 39)], [(1, 38), (3, 40)], [(1, 38)], [(1, 38), (4, 41), (5, 42)], [(1, 38), (6, 43)], [(7, 44)], [(8, 45)], [(8, 45)], [(8, 45), (9, 46), (10, 47)], [(8, 45), (11, 48)], [(8, 45)], [(8, 45), (12, 49), (13, 50)], [(8, 45), (14, 51)], [(15, 52)]] [(0, 37), (1, 38), (2, 39), (3, 40), (4, 41), (5, 42), (6, 43), (7, 44), (8, 45), (9, 46), (10, 47), (11, 48), (12, 49), (13, 50), (14, 51), (15, 52), (16, 6)] (by kernel_rfl) (by kernel_rfl) rfl ?stable ⟨?o0, ?o1, ?o2, ?o3, ?o4, ?o5, ?o6, ?o7, ?o8, ?o9, ?o10, ?o11, ?o12, ?o13, ?o14, ?o15, ?o16, trivial⟩ ?fin
      case stable => exact ⟨IsV.stable _, IsV.stable _, IsV.stable _, IsV.stable _, IsV.stable _, IsV.stable _, IsV.stable _, IsV.stable _, IsV.stable _, IsV.stable _, IsV.stable _, IsV.stable _, IsV.stable _, IsV.stable _, IsV.stable _, IsV.stable _, IsV.stable _, trivial⟩
      case o0 =>
        rintro vals w' hg -
        simp only [putS, List.foldl_nil]
        clear hg
        go_simp
        exact (alive_c w').mono fun e w2 ⟨he, hb⟩ => ⟨_, he, hb, isV_mk _ _⟩
      case o1 =>
        rintro vals w' hg ⟨(h0 : vals _ = _), _⟩
        simp only [putS, List.foldl_nil, List.foldl_cons, Act.put, List.setIfInBounds_toArray, List.set_cons_zero, List.set_cons_succ, h0]
        clear hg h0
        go_simp
        try go_bits
        exact isV_mk _ _
      case o2 =>
        rintro vals w' hg ⟨(h1 : vals _ = _), _⟩
        simp only [putS, List.foldl_nil, List.foldl_cons, Act.put, List.setIfInBounds_toArray, List.set_cons_zero, List.set_cons_succ, h1]
        clear hg h1
        go_simp
        try go_bits
        exact isV_mk _ _
      case o3 =>
        rintro vals w' hg ⟨(h1 : vals _ = _), (h2 : vals _ = _), _⟩
        simp only [putS, List.foldl_nil, List.foldl_cons, Act.put, List.setIfInBounds_toArray, List.set_cons_zero, List.set_cons_succ, h1, h2]
        have hgg := Lib.hid hg
        clear hg h1 h2
        go_simp
        exact (of_c zs hz hl b o cap w' (Lib.hid fun i hi => (hgg.out.cell (p := ⟨b, o + i, none⟩) (by omega)).trans (HC2.out i hi)) (by have := hgg.out.size; omega)).mono fun e w2 ⟨he, hb⟩ => ⟨_, he, hb, isV_mk _ _⟩
      case o4 =>
        rintro vals w' hg ⟨(h1 : vals _ = _), (h3 : vals _ = _), _⟩
        simp only [putS, List.foldl_nil, List.foldl_cons, Act.put, List.setIfInBounds_toArray, List.set_cons_zero, List.set_cons_succ, h1, h3]
        clear hg h1 h3
        go_simp
        exact (refOf_c _ (ofL_W64 _) w').mono fun e w2 ⟨he, hb⟩ => ⟨_, he, hb, isV_mk _ _⟩
      case o5 =>
        rintro vals w' hg ⟨(h1 : vals _ = _), _⟩
        simp only [putS, List.foldl_nil, List.foldl_cons, Act.put, List.setIfInBounds_toArray, List.set_cons_zero, List.set_cons_succ, h1]
        exact one_load_row (by rfl) _ _ rfl _ rfl _ _ _ _ (block_below' hg H0.out) Try.underlying29 rfl (i29 _) (isV_mk _ _)
      case o6 =>
        rintro vals w' hg ⟨(h1 : vals _ = _), (h4 : vals _ = _), (h5 : vals _ = _), _⟩
        simp only [putS, List.foldl_nil, List.foldl_cons, Act.put, List.setIfInBounds_toArray, List.set_cons_zero, List.set_cons_succ, h1, h4, h5]
        have heq0 := fun w => eq_BV_true HE1.out w
        clear hg h1 h4 h5
        go_simp
        exact isV_mk _ _
      case o7 =>
        rintro vals w' hg ⟨(h1 : vals _ = _), (h6 : vals _ = _), _⟩
        simp only [putS, List.foldl_nil, List.foldl_cons, Act.put, List.setIfInBounds_toArray, List.set_cons_zero, List.set_cons_succ, h1, h6]
        clear hg h1 h6
        go_simp
        try go_bits
        exact isV_mk _ _
      case o8 =>
        rintro vals w' hg ⟨(h7 : vals _ = _), _⟩
        simp only [putS, List.foldl_nil, List.foldl_cons, Act.put, List.setIfInBounds_toArray, List.set_cons_zero, List.set_cons_succ, h7]
        clear hg h7
        go_simp
        try go_bits
        exact isV_mk _ _
      case o9 =>
        rintro vals w' hg ⟨(h8 : vals _ = _), _⟩
        simp only [putS, List.foldl_nil, List.foldl_cons, Act.put, List.setIfInBounds_toArray, List.set_cons_zero, List.set_cons_succ, h8]
        clear hg h8
        go_simp
        try go_bits
        exact isV_mk _ _
      case o10 =>
        rintro vals w' hg ⟨(h8 : vals _ = _), _⟩
        simp only [putS, List.foldl_nil, List.foldl_cons, Act.put, List.setIfInBounds_toArray, List.set_cons_zero, List.set_cons_succ, h8]
        clear hg h8
        go_simp
        try go_bits
        exact isV_mk _ _
      case o11 =>
        rintro vals w' hg ⟨(h8 : vals _ = _), (h9 : vals _ = _), (h10 : vals _ = _), _⟩
        simp only [putS, List.foldl_nil, List.foldl_cons, Act.put, List.setIfInBounds_toArray, List.set_cons_zero, List.set_cons_succ, h8, h9, h10]
        clear hg h8 h9 h10
        go_simp
        exact (between_c lo hi h1 h2 w').mono fun e w2 ⟨he, hb⟩ => ⟨_, he, hb, isV_mk _ _⟩
      case o12 =>
        rintro vals w' hg ⟨(h8 : vals _ = _), (h11 : vals _ = _), _⟩
        simp only [putS, List.foldl_nil, List.foldl_cons, Act.put, List.setIfInBounds_toArray, List.set_cons_zero, List.set_cons_succ, h8, h11]
        clear hg h8 h11
        go_simp
        exact (refOf_c _ (btw_W64 _ _) w').mono fun e w2 ⟨he, hb⟩ => ⟨_, he, hb, isV_mk _ _⟩
      case o13 =>
        rintro vals w' hg ⟨(h8 : vals _ = _), _⟩
        simp only [putS, List.foldl_nil, List.foldl_cons, Act.put, List.setIfInBounds_toArray, List.set_cons_zero, List.set_cons_succ, h8]
        exact one_load_row (by rfl) _ _ rfl _ rfl _ _ _ _ (block_below' hg H1.out) Try.underlying29 rfl (i29 _) (isV_mk _ _)
      case o14 =>
        rintro vals w' hg ⟨(h8 : vals _ = _), (h12 : vals _ = _), (h13 : vals _ = _), _⟩
        simp only [putS, List.foldl_nil, List.foldl_cons, Act.put, List.setIfInBounds_toArray, List.set_cons_zero, List.set_cons_succ, h8, h12, h13]
        have heq0 := fun w => eq_BV_true HE2.out w
        clear hg h8 h12 h13
        go_simp
        exact isV_mk _ _
      case o15 =>
        rintro vals w' hg ⟨(h8 : vals _ = _), (h14 : vals _ = _), _⟩
        simp only [putS, List.foldl_nil, List.foldl_cons, Act.put, List.setIfInBounds_toArray, List.set_cons_zero, List.set_cons_succ, h8, h14]
        clear hg h8 h14
        go_simp
        try go_bits
        exact isV_mk _ _
      case o16 =>
        rintro vals w' hg ⟨(h15 : vals _ = _), _⟩
        simp only [putS, List.foldl_nil, List.foldl_cons, Act.put, List.setIfInBounds_toArray, List.set_cons_zero, List.set_cons_succ, h15]
        clear hg h15
        go_simp
        try go_bits
        exact isV_mk _ _
      case fin =>
        rintro vals w' hg ⟨(h0 : vals _ = _), (h1 : vals _ = _), (h2 : vals _ = _), (h3 : vals _ = _), (h4 : vals _ = _), (h5 : vals _ = _), (h6 : vals _ = _), (h7 : vals _ = _), (h8 : vals _ = _), (h9 : vals _ = _), (h10 : vals _ = _), (h11 : vals _ = _), (h12 : vals _ = _), (h13 : vals _ = _), (h14 : vals _ = _), (h15 : vals _ = _), (h16 : vals _ = _), _⟩ hfresh
        simp only [putS, List.foldl_nil, List.foldl_cons, Act.put, List.setIfInBounds_toArray, List.set_cons_zero, List.set_cons_succ, List.drop_succ_cons, List.drop_zero, h0, h1, h2, h3, h4, h5, h6, h7, h8, h9, h10, h11, h12, h13, h14, h15, h16]
        have HEnd := Lib.hid (HE.out.trans hg)
        clear hg hfresh h0 h1 h2 h3 h4 h5 h6 h7 h8 h9 h10 h11 h12 h13 h14 h15 h16
        go_wp2
        go_ret
        exact ⟨rfl, HEnd.out⟩
end Go.Proofs.Ytaagfmpolcpimaa
