/-
  How many bits of a 64-bit word are set: the sums of math/bits.OnesCount64, and letterset's Len. Conditions: words of 64 bits.
-/
import Derived.Test.YtaagfmpolcpimaaDoorWb
namespace Go.Proofs.YtaagfmpolcpimaaDoor
open Go.RowKit
set_option maxHeartbeats 400000
set_option maxRecDepth 100000
set_option linter.unusedSimpArgs false
set_option linter.unusedVariables false

theorem cnt_add (m : Nat → Bool) (a n : Nat) : cnt m (a + n) = cnt m a + cnt (fun j => m (a + j)) n := by
  induction n with
  | zero => rfl
  | succ n ih => rw [← Nat.add_assoc]; simp only [cnt]; rw [ih]; omega

theorem land_split (a p m r : Nat) (ha : a < 256) (hm : m < 256) : (a + 256 * p) &&& (m + 256 * r) = (a &&& m) + 256 * (p &&& r) := by
  apply Nat.eq_of_testBit_eq
  intro i
  have h1 := Nat.testBit_two_pow_mul_add (i := 8) p ha i
  have h2 := Nat.testBit_two_pow_mul_add (i := 8) r hm i
  have h3 := Nat.testBit_two_pow_mul_add (i := 8) (p &&& r) (b := a &&& m) (Nat.lt_of_le_of_lt Nat.and_le_left ha) i
  rw [Nat.testBit_and, show a + 256 * p = 2 ^ 8 * p + a by omega, show m + 256 * r = 2 ^ 8 * r + m by omega, show (a &&& m) + 256 * (p &&& r) = 2 ^ 8 * (p &&& r) + (a &&& m) by omega, h1, h2, h3]
  split <;> simp

def st1 (x M : Nat) : Nat := (x / 2 &&& M) + (x &&& M)
def st2 (x M : Nat) : Nat := (x / 4 &&& M) + (x &&& M)
def st3 (x M : Nat) : Nat := (x / 16 + x) &&& M

theorem st1_byte (b q M : Nat) (hb : b < 256) : st1 (b + 256 * q) (85 + 256 * M) = st1 b 85 + 256 * st1 q M := by
  unfold st1
  have e : (b + 256 * q) / 2 = (b / 2 + 128 * (q % 2)) + 256 * (q / 2) := by omega
  have k : (b / 2 + 128 * (q % 2)) &&& 85 = b / 2 &&& 85 := by
    have : ∀ b : Fin 256, ∀ c : Fin 2, (b.val / 2 + 128 * c.val) &&& 85 = b.val / 2 &&& 85 := by decide +kernel
    exact this ⟨b, hb⟩ ⟨q % 2, by omega⟩
  rw [e, land_split _ _ _ _ (by omega) (by omega), land_split _ _ _ _ hb (by omega), k]
  omega
theorem st2_byte (b q M : Nat) (hb : b < 256) : st2 (b + 256 * q) (51 + 256 * M) = st2 b 51 + 256 * st2 q M := by
  unfold st2
  have e : (b + 256 * q) / 4 = (b / 4 + 64 * (q % 4)) + 256 * (q / 4) := by omega
  have k : (b / 4 + 64 * (q % 4)) &&& 51 = b / 4 &&& 51 := by
    have : ∀ b : Fin 256, ∀ c : Fin 4, (b.val / 4 + 64 * c.val) &&& 51 = b.val / 4 &&& 51 := by decide +kernel
    exact this ⟨b, hb⟩ ⟨q % 4, by omega⟩
  rw [e, land_split _ _ _ _ (by omega) (by omega), land_split _ _ _ _ hb (by omega), k]
  omega
/-- the last of these steps: the nibbles of a byte hold at most 4 each -/
theorem st3_byte (b q M : Nat) (hb : b % 16 ≤ 4) (hb2 : b / 16 ≤ 4) (hq : q % 16 ≤ 4) : st3 (b + 256 * q) (15 + 256 * M) = st3 b 15 + 256 * st3 q M := by
  unfold st3
  have e : (b + 256 * q) / 16 + (b + 256 * q) = (b / 16 + 16 * (q % 16) + b) + 256 * (q / 16 + q) := by omega
  have k : (b / 16 + 16 * (q % 16) + b) &&& 15 = (b / 16 + b) &&& 15 := by
    rw [nat_mask4, nat_mask4]; omega
  rw [e, land_split _ _ _ _ (by omega) (by omega), k]

/-- the bits of a byte -/
def pop8 (b : Nat) : Nat := cnt (fun j => b.testBit j) 8
theorem byte_steps (b : Nat) (hb : b < 256) : st1 b 85 < 256 ∧ st2 (st1 b 85) 51 < 256 ∧ st2 (st1 b 85) 51 % 16 ≤ 4 ∧ st2 (st1 b 85) 51 / 16 ≤ 4 ∧ st3 (st2 (st1 b 85) 51) 15 = pop8 b ∧ pop8 b ≤ 8 := by
  have : ∀ b : Fin 256, st1 b.val 85 < 256 ∧ st2 (st1 b.val 85) 51 < 256 ∧ st2 (st1 b.val 85) 51 % 16 ≤ 4 ∧ st2 (st1 b.val 85) 51 / 16 ≤ 4 ∧ st3 (st2 (st1 b.val 85) 51) 15 = pop8 b.val ∧ pop8 b.val ≤ 8 := by decide +kernel
  exact this ⟨b, hb⟩

/-- masks of n bytes -/
def mask (m : Nat) : Nat → Nat
  | 0 => 0
  | n + 1 => m + 256 * mask m n
/-- the sums of the bytes' bits, a byte each -/
def pops : Nat → Nat → Nat
  | 0, _ => 0
  | n + 1, x => pop8 (x % 256) + 256 * pops n (x / 256)
theorem steps_pops : ∀ (n x : Nat), x < 256 ^ n → st3 (st2 (st1 x (mask 85 n)) (mask 51 n)) (mask 15 n) = pops n x ∧ st2 (st1 x (mask 85 n)) (mask 51 n) % 16 ≤ 4
  | 0, x, h => by
    simp at h; subst h
    simp [mask, st1, st2, st3, pops]
  | n + 1, x, h => by
    have hb : x % 256 < 256 := Nat.mod_lt _ (by omega)
    have hx : x = x % 256 + 256 * (x / 256) := by omega
    have hq : x / 256 < 256 ^ n := by rw [Nat.pow_succ] at h; omega
    obtain ⟨ih1, ih2⟩ := steps_pops n (x / 256) hq
    obtain ⟨h1, h2, h3, h4, h5, h6⟩ := byte_steps (x % 256) hb
    have e1 : st1 x (mask 85 (n + 1)) = st1 (x % 256) 85 + 256 * st1 (x / 256) (mask 85 n) := by
      conv => lhs; rw [hx]
      exact st1_byte _ _ _ hb
    simp only [mask, pops]
    simp only [mask] at e1
    rw [e1, st2_byte _ _ _ h1, st3_byte _ _ _ h3 h4 ih2, h5, ih1]
    exact ⟨rfl, by omega⟩
theorem cnt_pops : ∀ (x : Nat), x < 256 ^ 8 → cnt (fun j => x.testBit j) 64 = pop8 (x % 256) + pop8 (x / 256 % 256) + pop8 (x / 256 / 256 % 256) + pop8 (x / 256 / 256 / 256 % 256) + pop8 (x / 256 / 256 / 256 / 256 % 256) + pop8 (x / 256 / 256 / 256 / 256 / 256 % 256) + pop8 (x / 256 / 256 / 256 / 256 / 256 / 256 % 256) + pop8 (x / 256 / 256 / 256 / 256 / 256 / 256 / 256 % 256) := by
  intro x _
  have one : ∀ (x n : Nat), cnt (fun j => x.testBit j) (8 + n) = pop8 (x % 256) + cnt (fun j => (x / 256).testBit j) n := by
    intro x n
    rw [cnt_add]
    congr 1
    · unfold pop8
      refine cnt_congr 8 fun j hj => ?_
      have := Nat.testBit_mod_two_pow x 8 j
      simp only [Nat.reducePow] at this
      rw [this]; simp [hj]
    · refine cnt_congr n fun j _ => ?_
      have := Nat.testBit_div_two_pow (n := 8) x j
      simp only [Nat.reducePow] at this
      rw [this, Nat.add_comm]
  rw [show 64 = 8 + (8 + (8 + (8 + (8 + (8 + (8 + (8 + 0))))))) by rfl, one, one, one, one, one, one, one, one]
  simp only [cnt]
  omega

theorem and_c (x c : Nat) (hx : x < 18446744073709551616) (hc : c < 18446744073709551616) : bits .and .u64 (x : Int) (c : Int) = ((x &&& c : Nat) : Int) := u64_and_nat x c hx hc
theorem and_k (x c : Nat) (k : Int) (hk : k = (c : Int)) (hx : x < 18446744073709551616) (hc : c < 18446744073709551616) : bits .and .u64 (x : Int) k = ((x &&& c : Nat) : Int) := by rw [hk]; exact u64_and_nat x c hx hc
theorem mask_85 : mask 85 8 = 6148914691236517205 := by decide
theorem mask_51 : mask 51 8 = 3689348814741910323 := by decide
theorem mask_15 : mask 15 8 = 1085102592571150095 := by decide
theorem sum_bytes (a b c d e f g h : Nat) (ha : a ≤ 8) (hb : b ≤ 8) (hc : c ≤ 8) (hd : d ≤ 8) (he : e ≤ 8) (hf : f ≤ 8) (hg : g ≤ 8) (hh : h ≤ 8) :
    let y := a + 256 * (b + 256 * (c + 256 * (d + 256 * (e + 256 * (f + 256 * (g + 256 * h))))))
    let y4 := y + y / 256
    let y5 := y4 + y4 / 65536
    let y6 := y5 + y5 / 4294967296
    y ≤ 1000000000000000000 ∧ y6 % 128 = a + b + c + d + e + f + g + h := by
  intro y y4 y5 y6
  have h4 : y4 = (a + b) + 256 * ((b + c) + 256 * ((c + d) + 256 * ((d + e) + 256 * ((e + f) + 256 * ((f + g) + 256 * ((g + h) + 256 * h)))))) := by omega
  have h5 : y5 = (a + b + c + d) + 256 * ((b + c + d + e) + 256 * ((c + d + e + f) + 256 * ((d + e + f + g) + 256 * ((e + f + g + h) + 256 * ((f + g + h) + 256 * ((g + h) + 256 * h)))))) := by omega
  have h6 : ∃ k, y6 = (a + b + c + d + e + f + g + h) + 256 * k := ⟨(b + c + d + e + f + g + h) + 256 * ((c + d + e + f + g + h) + 256 * ((d + e + f + g + h) + 256 * ((e + f + g + h) + 256 * ((f + g + h) + 256 * ((g + h) + 256 * h))))), by omega⟩
  obtain ⟨k, hk⟩ := h6
  exact ⟨by omega, by omega⟩
theorem pops_eq (x : Nat) : pops 8 x = pop8 (x % 256) + 256 * (pop8 (x / 256 % 256) + 256 * (pop8 (x / 256 / 256 % 256) + 256 * (pop8 (x / 256 / 256 / 256 % 256) + 256 * (pop8 (x / 256 / 256 / 256 / 256 % 256) + 256 * (pop8 (x / 256 / 256 / 256 / 256 / 256 % 256) + 256 * (pop8 (x / 256 / 256 / 256 / 256 / 256 / 256 % 256) + 256 * (pop8 (x / 256 / 256 / 256 / 256 / 256 / 256 / 256 % 256)))))))) := by simp only [pops]; omega
theorem pop8_le (b : Nat) : pop8 b ≤ 8 := cnt_le _ _

/-- the chain of sums, as the text makes them -/
theorem ones_chain (x : Nat) (hx : x < 18446744073709551616) : ∃ y1 y2 y3 y4 y5 y6 : Nat,
    IntKind.u64.wrap (bits .and .u64 ((x : Int) / 2) 6148914691236517205 + bits .and .u64 (x : Int) 6148914691236517205) = (y1 : Int) ∧
    IntKind.u64.wrap (bits .and .u64 ((y1 : Int) / 4) 3689348814741910323 + bits .and .u64 (y1 : Int) 3689348814741910323) = (y2 : Int) ∧
    bits .and .u64 (IntKind.u64.wrap ((y2 : Int) / 16 + (y2 : Int))) 1085102592571150095 = (y3 : Int) ∧
    IntKind.u64.wrap ((y3 : Int) + (y3 : Int) / 256) = (y4 : Int) ∧ IntKind.u64.wrap ((y4 : Int) + (y4 : Int) / 65536) = (y5 : Int) ∧ IntKind.u64.wrap ((y5 : Int) + (y5 : Int) / 4294967296) = (y6 : Int) ∧
    y6 < 9223372036854775808 ∧ y6 % 128 = cnt (fun j => x.testBit j) 64 := by
  have key := sum_bytes _ _ _ _ _ _ _ _ (pop8_le (x % 256)) (pop8_le (x / 256 % 256)) (pop8_le (x / 256 / 256 % 256)) (pop8_le (x / 256 / 256 / 256 % 256)) (pop8_le (x / 256 / 256 / 256 / 256 % 256)) (pop8_le (x / 256 / 256 / 256 / 256 / 256 % 256)) (pop8_le (x / 256 / 256 / 256 / 256 / 256 / 256 % 256)) (pop8_le (x / 256 / 256 / 256 / 256 / 256 / 256 / 256 % 256))
  simp only [← pops_eq] at key
  obtain ⟨k1, k2⟩ := key
  have hp := (steps_pops 8 x (by simpa using hx)).1
  rw [mask_85, mask_51, mask_15] at hp
  have w64 : ∀ n : Nat, n < 18446744073709551616 → IntKind.u64.wrap (n : Int) = (n : Int) := fun n hn => IntWalk.u64_in _ (by omega)
  have a1 : ∀ y, y &&& 6148914691236517205 ≤ 6148914691236517205 := fun y => Nat.and_le_right
  have a2 : ∀ y, y &&& 3689348814741910323 ≤ 3689348814741910323 := fun y => Nat.and_le_right
  have b1 : st1 x 6148914691236517205 ≤ 12297829382473034410 := by unfold st1; have := a1 (x / 2); have := a1 x; omega
  have b2 : st2 (st1 x 6148914691236517205) 3689348814741910323 ≤ 7378697629483820646 := by
    generalize st1 x 6148914691236517205 = y; unfold st2; have := a2 (y / 4); have := a2 y; omega
  generalize hy1 : st1 x 6148914691236517205 = y1 at *
  generalize hy2 : st2 y1 3689348814741910323 = y2 at *
  generalize hy3 : pops 8 x = y3 at *
  obtain ⟨y4, hy4⟩ : ∃ y4, y4 = y3 + y3 / 256 := ⟨_, rfl⟩
  obtain ⟨y5, hy5⟩ : ∃ y5, y5 = y4 + y4 / 65536 := ⟨_, rfl⟩
  obtain ⟨y6, hy6⟩ : ∃ y6, y6 = y5 + y5 / 4294967296 := ⟨_, rfl⟩
  rw [← hy4, ← hy5, ← hy6] at k2
  have c4 : y4 ≤ 2000000000000000000 := by omega
  have c5 : y5 ≤ 4000000000000000000 := by omega
  have c6 : y6 ≤ 8000000000000000000 := by omega
  refine ⟨y1, y2, y3, y4, y5, y6, ?_, ?_, ?_, ?_, ?_, ?_, by omega, ?_⟩
  · have h1 := and_k (x / 2) 6148914691236517205 6148914691236517205 rfl (by omega) (by decide)
    have h2 := and_k x 6148914691236517205 6148914691236517205 rfl hx (by decide)
    rw [show ((x : Int) / 2) = ((x / 2 : Nat) : Int) from rfl, h1, h2, ← Int.natCast_add, show (x / 2 &&& 6148914691236517205) + (x &&& 6148914691236517205) = y1 from hy1]
    exact w64 _ (by omega)
  · have h1 := and_k (y1 / 4) 3689348814741910323 3689348814741910323 rfl (by omega) (by decide)
    have h2 := and_k y1 3689348814741910323 3689348814741910323 rfl (by omega) (by decide)
    rw [show ((y1 : Int) / 4) = ((y1 / 4 : Nat) : Int) from rfl, h1, h2, ← Int.natCast_add, show (y1 / 4 &&& 3689348814741910323) + (y1 &&& 3689348814741910323) = y2 from hy2]
    exact w64 _ (by omega)
  · have h1 := and_k (y2 / 16 + y2) 1085102592571150095 1085102592571150095 rfl (by omega) (by decide)
    rw [show ((y2 : Int) / 16) = ((y2 / 16 : Nat) : Int) from rfl, ← Int.natCast_add, w64 _ (by omega), h1]
    exact congrArg _ hp
  · rw [show ((y3 : Int) / 256) = ((y3 / 256 : Nat) : Int) from rfl, ← Int.natCast_add, ← hy4]; exact w64 _ (by omega)
  · rw [show ((y4 : Int) / 65536) = ((y4 / 65536 : Nat) : Int) from rfl, ← Int.natCast_add, ← hy5]; exact w64 _ (by omega)
  · rw [show ((y5 : Int) / 4294967296) = ((y5 / 4294967296 : Nat) : Int) from rfl, ← Int.natCast_add, ← hy6]; exact w64 _ (by omega)
  · rw [k2, cnt_pops x (by simpa using hx)]

theorem and127 (n : Nat) (h : n < 9223372036854775808) : bits .and .i64 (n : Int) 127 = ((n % 128 : Nat) : Int) := by
  have h1 : (BitVec.ofInt 64 (n : Int)).toNat = n := by
    rw [BitVec.ofInt_natCast, BitVec.toNat_ofNat]; exact Nat.mod_eq_of_lt (by omega)
  have h2 : (BitVec.ofInt 64 (127 : Int)).toNat = 127 := by decide
  show IntKind.i64.wrap ((BitVec.ofInt 64 (n : Int) &&& BitVec.ofInt 64 127).toNat : Int) = _
  rw [BitVec.toNat_and, h1, h2, nat_mask7]
  exact IntWalk.i64_in _ (by omega)

theorem ones_c (x : Nat) (hx : x < 18446744073709551616) (w : World) :
    Calls Tryd.prog 17 #[.int .u64 x] w fun e w' => e = .returned (.int .i64 (cnt (fun j => x.testBit j) 64 : Nat)) ∧ w = w' := by
  obtain ⟨y1, y2, y3, y4, y5, y6, h1, h2, h3, h4, h5, h6, h7, h8⟩ := ones_chain x hx
  have hx2 : x ≤ 18446744073709551615 := by omega
  go_enter Tryd.func17, Tryd.ntmps17
  have H8 := Lib.hid h8
  have H7 := Lib.hid h7
  clear h8 h7 hx
  have H1 := Lib.hid h1; have H2 := Lib.hid h2; have H3 := Lib.hid h3; have H4 := Lib.hid h4; have H5 := Lib.hid h5; have H6 := Lib.hid h6
  clear h1 h2 h3 h4 h5 h6
  go_wp2
  go_ret
  refine ⟨congrArg Ending.returned ?_, rfl⟩
  show Value.int .i64 (bits .and .i64 _ 127) = _
  rw [H1.out, H2.out, H3.out, H4.out, H5.out, H6.out]
  rw [IntWalk.wrap64_in _ (by have := H7.out; omega)]
  rw [and127 _ H7.out, H8.out]

/-- the four words' bits are the letters -/
theorem cnt_words (s : Nat → Nat) (k : Nat) : cnt (bit s) (64 * (k + 1)) = cnt (bit s) (64 * k) + cnt (fun j => (s k).testBit j) 64 := by
  rw [show 64 * (k + 1) = 64 * k + 64 by omega, cnt_add]
  congr 1
  refine cnt_congr 64 fun j hj => ?_
  unfold bit
  rw [show (64 * k + j) / 64 = k by omega, show (64 * k + j) % 64 = j by omega]

theorem len_c (s : Nat → Nat) (hs : W64 s) (w : World) :
    Calls Tryd.prog 10 #[.agg (AV s)] w fun e w' => e = .returned (.int .i64 (cnt (bit s) 256 : Nat)) ∧ Below w.heap.size w w' := by
  go_enter Tryd.func10, Tryd.ntmps10
  go_wp2_with (first | (refine wpList_load_row rfl 26 _ rfl _ rfl _ _ _ _ (heap_at _ _ _ rfl) Tryd.underlying26 rfl (i26 _) ?_; simp only [Act.put, List.setIfInBounds_toArray, List.set_cons_zero, List.set_cons_succ]))
  go_loopw [3, 5, 7] (fun c _ i wr => ∃ k : Nat, k ≤ 4 ∧ i = .int .i64 k ∧ c = .int .i64 (cnt (bit s) (64 * k) : Nat) ∧ wr = w.alloc (.cells (AV s) 26)) (fun _ _ i _ => 4 - (intOf i).toNat)
  case atStart => exact ⟨0, by omega, rfl, rfl, rfl⟩
  case round =>
    obtain ⟨k, hk, rfl, rfl, rfl⟩ := hrel
    obtain ⟨wx, hwx⟩ : ∃ wx, wx = w.alloc (.cells (AV s) 26) := ⟨_, rfl⟩
    rw [← hwx]
    have HWX := Lib.hid hwx
    clear hwx
    by_cases hlt : k < 4
    · have hi : ∀ w, (Instr.index 26 (.agg (AV s)) (.int .i64 k)).run Tryd.prog w = .ok (.int .u64 (s k)) w := fun w => by
        have hx := AV_get s k hlt
        have h0 : (0 : Int) ≤ k := by omega
        have h1 : (k : Int) < 4 := by omega
        simp [Instr.index, asIntOf, part, hx, h0, h1]
        intro h; omega
      obtain ⟨c, hc⟩ : ∃ c, c = cnt (bit s) (64 * k) := ⟨_, rfl⟩
      have hcb : c ≤ 256 := by rw [hc]; exact Nat.le_trans (cnt_le _ _) (by omega)
      rw [← hc]
      have HC := Lib.hid hc
      clear hc
      obtain ⟨q, hq⟩ : ∃ q, q = cnt (fun j => (s k).testBit j) 64 := ⟨_, rfl⟩
      have hqb : q ≤ 64 := by rw [hq]; exact cnt_le _ _
      have HQ := Lib.hid hq
      clear hq
      go_wp2_with (go_at_call 17; refine (ones_c (s k) (hs k) _).mono ?_; rw [← HQ.out]; rintro e w' ⟨rfl, rfl⟩)
      go_roundw
      case rel => exact ⟨k + 1, by omega, by go_num, by rw [cnt_words, ← HC.out, ← HQ.out]; go_num, trivial⟩
      case measure => simp [intOf]; omega
    · obtain rfl : k = 4 := by omega
      go_wp2
      go_ret
      exact ⟨rfl, by rw [HWX.out]; exact grew_alloc _ _⟩
end Go.Proofs.YtaagfmpolcpimaaDoor
