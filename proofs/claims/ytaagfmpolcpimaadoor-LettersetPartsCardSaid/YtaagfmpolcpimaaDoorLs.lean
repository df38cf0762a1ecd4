/-
  The walks of letterset's least, of the comparison that Atoms sorts by, and of the reference's Alike: what each returns. Conditions: words of 64 bits, the library's table as its text lays it.
-/
import Derived.Test.YtaagfmpolcpimaaDoorPop
import Derived.Test.YtaagfmpolcpimaaDoorTz
import Derived.Deep.LoopGhost
import Derived.Deep.RegionWith
namespace Go.Proofs.YtaagfmpolcpimaaDoor
open Go.RowKit Go.Shelf
set_option maxHeartbeats 2000000
set_option maxRecDepth 100000
set_option linter.unusedSimpArgs false
set_option linter.unusedVariables false

/-- the library's table stands in its block -/
abbrev Tab (w : World) : Prop := TabAt 0 Lib.deBruijn64tab w
theorem Tab.below {B : Nat} {w w' : World} (h : Tab w) (hb : Below B w w') (h0 : 0 < B) : Tab w' := fun j hj => (hb.cell (p := ⟨0, j, none⟩) h0).trans (h j hj)
theorem tz_c (x : Nat) (hx : x < 18446744073709551616) (w : World) (hT : Tab w) : Calls Tryd.prog 20 #[.int .u64 x] w fun e w' => e = .returned (.int .i64 (Lib.ctz 64 x : Nat)) ∧ w = w' := by
  have h := Any7.bits_TrailingZeros64 Tryd.lays29 x hx w (fun _ => hT)
  exact Calls.mono h fun _ _ ⟨h1, h2⟩ => ⟨h1, h2.symm⟩
/-- the least letter, from word k on -/
def leastF (s : Nat → Nat) : Nat → Nat → Nat
  | 0, _ => 256
  | f + 1, k => if s k ≠ 0 then 64 * k + Lib.ctz 64 (s k) else leastF s f (k + 1)
/-- the least letter of a set; 256 for the empty set -/
def least (s : Nat → Nat) : Nat := leastF s 4 0
theorem ctz_le (x : Nat) (hx : x < 18446744073709551616) : Lib.ctz 64 x ≤ 64 := by
  by_cases h : x = 0
  · unfold Lib.ctz; rw [if_pos h]; exact Nat.le_refl _
  · exact Nat.le_of_lt (Lib.lowest_bit 64 x h hx).2
theorem leastF_le (s : Nat → Nat) (hs : W64 s) : ∀ f k, f + k ≤ 4 → leastF s f k ≤ 256
  | 0, k, _ => Nat.le_refl _
  | f + 1, k, h => by
    unfold leastF
    split
    · have := ctz_le (s k) (hs k); omega
    · exact leastF_le s hs f (k + 1) (by omega)
theorem least_le (s : Nat → Nat) (hs : W64 s) : least s ≤ 256 := leastF_le s hs 4 0 (by omega)

theorem least_c (s : Nat → Nat) (hs : W64 s) (w : World) (hT : Hid (Tab w)) (h0 : 0 < w.heap.size) : Calls Tryd.prog 15 #[.agg (AV s)] w fun e w' => e = .returned (.int .i64 (least s : Nat)) ∧ w' = w.alloc (.cells (AV s) 26) := by
  go_enter Tryd.func15, Tryd.ntmps15
  go_wp2_with (first | (refine wpList_load_row rfl 26 _ rfl _ rfl _ _ _ _ (heap_at _ _ _ rfl) Tryd.underlying26 rfl (i26 _) ?_; simp only [Act.put, List.setIfInBounds_toArray, List.set_cons_zero, List.set_cons_succ]))
  obtain ⟨wo, hwo⟩ : ∃ wo, wo = w.alloc (.cells (AV s) 26) := ⟨_, rfl⟩
  have HTO : Hid (Tab wo) := Lib.hid (by rw [hwo]; exact hT.out.below (grew_alloc w _) h0)
  rw [← hwo]
  have HWO := Lib.hid hwo
  clear hwo
  go_loopg [6] 4 (fun g i wr => ∃ k : Nat, k ≤ 4 ∧ g = 4 - k ∧ i = .int .i64 k ∧ wr = wo ∧ Hid (least s = leastF s (4 - k) k))
  case atStart => exact ⟨0, by omega, by omega, rfl, rfl, Lib.hid rfl⟩
  case round =>
    obtain ⟨k, hk, rfl, rfl, rfl, HL⟩ := hrel
    by_cases hlt : k < 4
    · have hi : ∀ w, (Instr.index 26 (.agg (AV s)) (.int .i64 k)).run Tryd.prog w = .ok (.int .u64 (s k)) w := fun w => by
        have hx := AV_get s k hlt
        have h0 : (0 : Int) ≤ k := by omega
        have h1 : (k : Int) < 4 := by omega
        simp [Instr.index, asIntOf, part, hx, h0, h1]
        intro h; omega
      by_cases hz : s k = 0
      · have HZ := Lib.hid hz
        have e : ((s k : Int) != 0) = false := by rw [hz]; rfl
        clear hz
        go_wp2
        go_roundg (4 - (k + 1))
        case measure => omega
        case rel => exact ⟨k + 1, by omega, rfl, by go_num, rfl, Lib.hid (by rw [HL.out, show 4 - k = (4 - (k + 1)) + 1 by omega, leastF, if_neg (by rw [HZ.out]; simp)])⟩
      · have HZ := Lib.hid hz
        have e : ((s k : Int) != 0) = true := by rw [bne_iff_ne]; omega
        have hb := hs k
        have hc := ctz_le (s k) (hs k)
        have HV : Hid (((64 * (k : Int) + (Lib.ctz 64 (s k) : Nat)) : Int) = (least s : Nat)) := Lib.hid (by rw [HL.out, show 4 - k = (4 - (k + 1)) + 1 by omega, leastF, if_pos HZ.out]; simp)
        clear hz
        generalize hq : Lib.ctz 64 (s k) = q at hc HV
        have HQ := Lib.hid hq
        clear hq
        go_wp2_with fail
        refine (tz_c (s k) hb _ HTO.out).mono ?_
        rw [HQ.out]
        rintro e w' ⟨rfl, rfl⟩
        go_wp2_with fail
        go_ret
        exact ⟨congrArg (fun x => Ending.returned (.int .i64 x)) HV.out, HWO.out⟩
    · have hk4 : k = 4 := by omega
      have HV : Hid ((256 : Nat) = least s) := Lib.hid (by rw [HL.out, hk4]; rfl)
      go_wp2_with fail
      go_ret
      exact ⟨congrArg (fun x : Nat => Ending.returned (.int .i64 x)) HV.out, HWO.out⟩

/-- sets of 64-bit words -/
abbrev LW := { s : Nat → Nat // W64 s }
instance : Inhabited LW := ⟨⟨fun _ => 0, W64_zero⟩⟩
/-- the comparison by least letters -/
def cf (x y : LW) : Int := (least x.1 : Int) - least y.1
theorem cf_bd (x y : LW) : -256 ≤ cf x y ∧ cf x y ≤ 256 := by
  have := least_le x.1 x.2; have := least_le y.1 y.2; unfold cf; omega
/-- four words -/
def mk4 (a b c d : Nat) : Nat → Nat := fun k => match k with | 0 => a | 1 => b | 2 => c | 3 => d | _ => 0
theorem mk4_W64 {a b c d : Nat} (ha : a < 18446744073709551616) (hb : b < 18446744073709551616) (hc : c < 18446744073709551616) (hd : d < 18446744073709551616) : W64 (mk4 a b c d) := fun k => by
  match k with
  | 0 => exact ha
  | 1 => exact hb
  | 2 => exact hc
  | 3 => exact hd
  | _ + 4 => exact Nat.zero_lt_succ _
theorem mk4_AV (s : Nat → Nat) : AV (mk4 (s 0) (s 1) (s 2) (s 3)) = AV s := by rw [AV_eq, AV_eq]; rfl
theorem mk4_least (s : Nat → Nat) : least (mk4 (s 0) (s 1) (s 2) (s 3)) = least s := by simp [least, leastF, mk4]
theorem least_lit (a b c d : Nat) (ha : a < 18446744073709551616) (hb : b < 18446744073709551616) (hc : c < 18446744073709551616) (hd : d < 18446744073709551616) (w : World) (hT : Hid (Tab w)) (h0 : Hid (0 < w.heap.size)) :
    Calls Tryd.prog 15 #[.agg #[.int .u64 a, .int .u64 b, .int .u64 c, .int .u64 d]] w fun e w' => e = .returned (.int .i64 (least (mk4 a b c d) : Nat)) ∧ w' = w.alloc (.cells #[.int .u64 a, .int .u64 b, .int .u64 c, .int .u64 d] 26) := by
  have h := least_c (mk4 a b c d) (mk4_W64 ha hb hc hd) w hT h0.out
  rw [AV_eq] at h
  exact h
theorem least_any (a b c d : Nat) (ha : a < 18446744073709551616) (hb : b < 18446744073709551616) (hc : c < 18446744073709551616) (hd : d < 18446744073709551616) {w0 w : World} (hT : Tab w0) (h0 : 0 < w0.heap.size) (hB : Below w0.heap.size w0 w) :
    Calls Tryd.prog 15 #[.agg #[.int .u64 a, .int .u64 b, .int .u64 c, .int .u64 d]] w fun e w' => e = .returned (.int .i64 (least (mk4 a b c d) : Nat)) ∧ w' = w.alloc (.cells #[.int .u64 a, .int .u64 b, .int .u64 c, .int .u64 d] 26) :=
  least_lit a b c d ha hb hc hd w (Lib.hid (hT.below hB h0)) (Lib.hid (Nat.lt_of_lt_of_le h0 hB.size))
theorem cmp_lit (a b c d a' b' c' d' : Nat) (ha : a < 18446744073709551616) (hb : b < 18446744073709551616) (hc : c < 18446744073709551616) (hd : d < 18446744073709551616) (ha' : a' < 18446744073709551616) (hb' : b' < 18446744073709551616) (hc' : c' < 18446744073709551616) (hd' : d' < 18446744073709551616)
    (hl : least (mk4 a b c d) ≤ 256) (hl' : least (mk4 a' b' c' d') ≤ 256) (w : World) (HT : Hid (Tab w)) (h0 : 0 < w.heap.size) :
    Calls Tryd.prog 14 #[.agg #[.int .u64 a, .int .u64 b, .int .u64 c, .int .u64 d], .agg #[.int .u64 a', .int .u64 b', .int .u64 c', .int .u64 d']] w fun e w' => e = .returned (.int .i64 ((least (mk4 a b c d) : Nat) - (least (mk4 a' b' c' d') : Nat) : Int)) ∧ ∃ q os, w' = Sort.grow (w.drewN q) os := by
  go_enter Tryd.func14, Tryd.ntmps14
  go_wp2_with fail
  go_region_with (go_at_call 15; refine (least_any _ _ _ _ (by assumption) (by assumption) (by assumption) (by assumption) HT.out h0 (by repeat (first | exact Below.refl _ _ | refine Below.drew ?_ | refine Below.alloc ?_ (by first | (simp; done) | (simp; omega)) _))).mono ?_; rintro e w' ⟨rfl, rfl⟩)
  all_goals go_wp2_with fail
  all_goals go_ret
  all_goals refine ⟨?_, 1, _, by rw [Sort.alloc_eq_grow, Sort.alloc_eq_grow, Sort.alloc_eq_grow, Sort.alloc_eq_grow, Sort.grow_grow, Sort.grow_grow, Sort.grow_grow]; rfl⟩
  all_goals simp [Act.put]
  all_goals exact IntWalk.i64_in _ (by omega)
theorem cmp_c (x y : LW) (w : World) (HT : Hid (Tab w)) (h0 : 0 < w.heap.size) : Calls Tryd.prog 14 #[.agg (AV x.1), .agg (AV y.1)] w fun e w' => e = .returned (.int .i64 (cf x y)) ∧ ∃ q os, w' = Sort.grow (w.drewN q) os := by
  have h := cmp_lit (x.1 0) (x.1 1) (x.1 2) (x.1 3) (y.1 0) (y.1 1) (y.1 2) (y.1 3) (x.2 0) (x.2 1) (x.2 2) (x.2 3) (y.2 0) (y.2 1) (y.2 2) (y.2 3) (by rw [mk4_least]; exact least_le _ x.2) (by rw [mk4_least]; exact least_le _ y.2) w HT h0
  rw [mk4_least, mk4_least] at h
  rw [AV_eq, AV_eq]
  exact h
end Go.Proofs.YtaagfmpolcpimaaDoor
