/-
  Plain facts on sets of letters: a set as four words, as 256 truth values; no program in sight. No condition beyond what each states.
-/
import Derived.Test.YtaagfmpolcpimaaDoorGrow
namespace Go.Proofs.YtaagfmpolcpimaaDoor
open Go.RowKit

/-! ### 256 truth values by value -/
def BV (m : Nat → Bool) : Array Value := Array.ofFn (n := 256) fun i => .bool (m i.val)
theorem BV_get (m : Nat → Bool) (i : Nat) (h : i < 256) : (BV m)[i]? = some (.bool (m i)) := by
  simp [BV, h]
theorem BV_set (m : Nat → Bool) (i : Nat) (v : Bool) : (BV m).setIfInBounds i (.bool v) = BV (fun j => if j = i then v else m j) := by
  apply Array.ext_getElem?
  intro j
  by_cases hj : j < 256
  · by_cases h : i = j
    · subst h; simp [BV, hj]
    · have h' : j ≠ i := fun e => h e.symm
      simp [BV, hj, h, h']
  · simp [BV, hj]
theorem BV_size (m : Nat → Bool) : (BV m).size = 256 := by simp [BV]
theorem BV_one (m : Nat → Bool) : (BV m).all (·.oneCell') = true := by
  rw [Array.all_eq_true_iff_forall_mem]
  intro x hx
  simp only [BV, Array.mem_ofFn] at hx
  obtain ⟨i, rfl⟩ := hx
  rfl
theorem BV_congr {m n : Nat → Bool} (h : ∀ j, j < 256 → m j = n j) : BV m = BV n := by
  apply Array.ext_getElem?
  intro j
  by_cases hj : j < 256
  · rw [BV_get _ _ hj, BV_get _ _ hj, h j hj]
  · rw [Array.getElem?_eq_none (by rw [BV_size]; omega), Array.getElem?_eq_none (by rw [BV_size]; omega)]
theorem z28 (w : World) : (zeroValue 28).run Tryd.prog w = .ok (.agg (BV fun _ => false)) w := by kernel_rfl
theorem i28 (m : Nat → Bool) : (Tryd.prog.info? 28).map (·.size) = some (BV m).size := by rw [BV_size]; kernel_rfl
attribute [irreducible] BV

/-! ### four words -/
/-- each word fits 64 bits -/
def W64 (s : Nat → Nat) : Prop := ∀ k, s k < 18446744073709551616
/-- is b in the set -/
def bit (s : Nat → Nat) (b : Nat) : Bool := (s (b / 64)).testBit (b % 64)
def AV (s : Nat → Nat) : Array Value := #[.int .u64 (s 0), .int .u64 (s 1), .int .u64 (s 2), .int .u64 (s 3)]
theorem AV_get (s : Nat → Nat) (k : Nat) (hk : k < 4) : (AV s)[k]? = some (.int .u64 (s k)) := by
  have : k = 0 ∨ k = 1 ∨ k = 2 ∨ k = 3 := by omega
  rcases this with h | h | h | h <;> subst h <;> rfl
theorem AV_size (s : Nat → Nat) : (AV s).size = 4 := rfl
theorem AV_one (s : Nat → Nat) : (AV s).all (·.oneCell') = true := by simp [AV, Value.oneCell']
theorem AV_set (s : Nat → Nat) (k : Nat) (v : Nat) : (AV s).setIfInBounds k (.int .u64 v) = AV (fun j => if j = k then v else s j) := by
  by_cases hk : k < 4
  · have : k = 0 ∨ k = 1 ∨ k = 2 ∨ k = 3 := by omega
    rcases this with h | h | h | h <;> subst h <;> rfl
  · rw [Array.setIfInBounds_eq_of_size_le (by rw [AV_size]; omega)]
    simp only [AV]
    rw [if_neg (by omega), if_neg (by omega), if_neg (by omega), if_neg (by omega)]
theorem AV_congr {s t : Nat → Nat} (h : ∀ k, k < 4 → s k = t k) : AV s = AV t := by
  unfold AV; rw [h 0 (by omega), h 1 (by omega), h 2 (by omega), h 3 (by omega)]
theorem z26 (w : World) : (zeroValue 26).run Tryd.prog w = .ok (.agg (AV fun _ => 0)) w := by kernel_rfl
theorem i26 (s : Nat → Nat) : (Tryd.prog.info? 26).map (·.size) = some (AV s).size := by rw [AV_size]; kernel_rfl
theorem word_get (s : Nat → Nat) (b : Nat) (hb : b < 256) (x : Nat) (hx : x = s (b / 64)) : (AV s)[b / 64]? = some (.int .u64 x) := by
  rw [hx]; exact AV_get s (b / 64) (by omega)
theorem AV_eq (s : Nat → Nat) : AV s = #[.int .u64 (s 0), .int .u64 (s 1), .int .u64 (s 2), .int .u64 (s 3)] := rfl
attribute [irreducible] AV
/-- the four cells of a block, and that they may be written -/
theorem AV_cells {w : World} {B : Nat} {s : Nat → Nat} {t : TypeId} (h : w.heap[B]? = some (.cells (AV s) t)) :
    w.cell? ⟨B, 0, none⟩ = some (.int .u64 (s 0)) ∧ w.cell? ⟨B, 1, none⟩ = some (.int .u64 (s 1)) ∧ w.cell? ⟨B, 2, none⟩ = some (.int .u64 (s 2)) ∧ w.cell? ⟨B, 3, none⟩ = some (.int .u64 (s 3)) := by
  refine ⟨?_, ?_, ?_, ?_⟩ <;> rw [cell_of_row w B _ _ _ _ h, AV_get _ _ (by omega)]
theorem bit_form (s : Nat → Nat) (hs : W64 s) (b x : Nat) (hx : x = s (b / 64)) : (bits .and .u64 ((x : Int) / 2 ^ (b % 64)) 1 == 1) = bit s b := by
  have hb := hs (b / 64)
  rw [← hx] at hb
  have e : ((x : Int) / 2 ^ (b % 64)) = ((x / 2 ^ (b % 64) : Nat) : Int) := by simp
  have h1 : x / 2 ^ (b % 64) < 18446744073709551616 := Nat.lt_of_le_of_lt (Nat.div_le_self _ _) hb
  have := u64_and_nat (x / 2 ^ (b % 64)) 1 h1 (by decide)
  rw [e]
  rw [show (1 : Int) = ((1 : Nat) : Int) from rfl, this, bit, ← hx, Nat.testBit_eq_decide_div_mod_eq, nat_mask1, Bool.eq_iff_iff]
  simp
  omega
/-- b put in -/
def addB (s : Nat → Nat) (b : Nat) : Nat → Nat := fun k => if k = b / 64 then s k ||| 2 ^ (b % 64) else s k
theorem addB_W64 {s : Nat → Nat} (hs : W64 s) (b : Nat) : W64 (addB s b) := by
  intro k
  have h1 := hs k
  unfold addB
  split
  · exact Nat.or_lt_two_pow (n := 64) (by omega) (Nat.pow_lt_pow_right (by omega) (by omega))
  · exact h1
theorem bit_addB (s : Nat → Nat) (b c : Nat) : bit (addB s b) c = (bit s c || decide (c = b)) := by
  unfold bit addB
  split
  · rename_i h
    rw [Nat.testBit_or, Nat.testBit_two_pow]
    congr 1
    simp
    omega
  · rename_i h
    have : c ≠ b := by intro e; exact h (by rw [e])
    simp [this]
theorem W64_zero : W64 fun _ => 0 := fun _ => by show 0 < 18446744073709551616; omega
theorem bit_zero (c : Nat) : bit (fun _ => 0) c = false := by simp [bit]
/-- two sets of 64-bit words with the same letters have the same words -/
theorem word_ext {s t : Nat → Nat} (hs : W64 s) (ht : W64 t) (h : ∀ b, b < 256 → bit s b = bit t b) (k : Nat) (hk : k < 4) : s k = t k := by
  apply Nat.eq_of_testBit_eq
  intro i
  by_cases hi : i < 64
  · have := h (64 * k + i) (by omega)
    unfold bit at this
    rwa [show (64 * k + i) / 64 = k by omega, show (64 * k + i) % 64 = i by omega] at this
  · have h1 : s k < 2 ^ i := Nat.lt_of_lt_of_le (hs k) (by have := Nat.pow_le_pow_right (n := 2) (by omega) (show 64 ≤ i by omega); omega)
    have h2 : t k < 2 ^ i := Nat.lt_of_lt_of_le (ht k) (by have := Nat.pow_le_pow_right (n := 2) (by omega) (show 64 ≤ i by omega); omega)
    rw [Nat.testBit_lt_two_pow h1, Nat.testBit_lt_two_pow h2]
/-- equality of the four words, as a Bool -/
def eqS (s t : Nat → Nat) : Bool := s 0 == t 0 && s 1 == t 1 && s 2 == t 2 && s 3 == t 3
theorem eqS_iff {s t : Nat → Nat} (hs : W64 s) (ht : W64 t) : eqS s t = true ↔ ∀ b, b < 256 → bit s b = bit t b := by
  constructor
  · intro h b hb
    simp only [eqS, Bool.and_eq_true, beq_iff_eq] at h
    unfold bit
    have : b / 64 = 0 ∨ b / 64 = 1 ∨ b / 64 = 2 ∨ b / 64 = 3 := by omega
    rcases this with e | e | e | e <;> rw [e] <;> simp [h]
  · intro h
    simp only [eqS, Bool.and_eq_true, beq_iff_eq]
    exact ⟨⟨⟨word_ext hs ht h 0 (by omega), word_ext hs ht h 1 (by omega)⟩, word_ext hs ht h 2 (by omega)⟩, word_ext hs ht h 3 (by omega)⟩

/-! ### the operations on words -/
def orW (a b : Nat → Nat) : Nat → Nat := fun k => a k ||| b k
def andW (a b : Nat → Nat) : Nat → Nat := fun k => a k &&& b k
def subW (a b : Nat → Nat) : Nat → Nat := fun k => a k &&& (18446744073709551615 - b k)
def notW (a : Nat → Nat) : Nat → Nat := fun k => 18446744073709551615 - a k
theorem orW_W64 {a b : Nat → Nat} (ha : W64 a) (hb : W64 b) : W64 (orW a b) := fun k => Nat.or_lt_two_pow (n := 64) (ha k) (hb k)
theorem andW_W64 {a : Nat → Nat} (ha : W64 a) (b : Nat → Nat) : W64 (andW a b) := fun k => Nat.lt_of_le_of_lt Nat.and_le_left (ha k)
theorem subW_W64 {a : Nat → Nat} (ha : W64 a) (b : Nat → Nat) : W64 (subW a b) := fun k => Nat.lt_of_le_of_lt Nat.and_le_left (ha k)
theorem notW_W64 (a : Nat → Nat) : W64 (notW a) := fun k => by unfold notW; omega
theorem bit_orW (a b : Nat → Nat) (c : Nat) : bit (orW a b) c = (bit a c || bit b c) := by simp [bit, orW]
theorem bit_andW (a b : Nat → Nat) (c : Nat) : bit (andW a b) c = (bit a c && bit b c) := by simp [bit, andW]
theorem testBit_compl {x i : Nat} (hx : x < 18446744073709551616) (hi : i < 64) : (18446744073709551615 - x).testBit i = !x.testBit i := by
  have := Nat.testBit_two_pow_sub_succ (n := 64) (x := x) hx i
  rw [show 2 ^ 64 - (x + 1) = 18446744073709551615 - x by omega] at this
  rw [this]; simp [hi]
theorem bit_subW {a b : Nat → Nat} (hb : W64 b) (c : Nat) : bit (subW a b) c = (bit a c && !bit b c) := by
  simp only [bit, subW, Nat.testBit_and]
  rw [testBit_compl (hb _) (by omega)]
theorem bit_notW {a : Nat → Nat} (ha : W64 a) (c : Nat) : bit (notW a) c = !bit a c := by
  simp only [bit, notW]
  rw [testBit_compl (ha _) (by omega)]

/-! ### forms that the walk leaves -/
theorem not_form (x : Nat) (hx : x < 18446744073709551616) : bits .xor .u64 (if IntKind.u64.signed = true then -1 else IntKind.u64.max) (x : Int) = ((18446744073709551615 - x : Nat) : Int) := by
  have e : (if IntKind.u64.signed = true then (-1 : Int) else IntKind.u64.max) = ((18446744073709551615 : Nat) : Int) := by decide
  rw [e, u64_xor_nat _ _ (by omega) hx]
  congr 1
  apply Nat.eq_of_testBit_eq
  intro i
  rw [Nat.testBit_xor]
  by_cases hi : i < 64
  · rw [testBit_compl hx hi]
    have := testBit_compl (x := 0) (i := i) (by omega) hi
    simp at this
    rw [this]; simp
  · have hp := Nat.pow_le_pow_right (n := 2) (by omega) (show 64 ≤ i by omega)
    rw [Nat.testBit_lt_two_pow (x := x) (by omega), Nat.testBit_lt_two_pow (x := 18446744073709551615) (by omega), Nat.testBit_lt_two_pow (x := 18446744073709551615 - x) (by omega)]; rfl
theorem pow_form (i : Nat) (hi : i < 64) : IntKind.u64.wrap (2 ^ i) = ((2 ^ i : Nat) : Int) := by
  have h : (2 : Nat) ^ i < 2 ^ 64 := Nat.pow_lt_pow_right (by omega) hi
  have e : ((2 : Int) ^ i) = ((2 ^ i : Nat) : Int) := by simp
  rw [e]
  generalize (2 : Nat) ^ i = p at h
  exact IntWalk.u64_in _ (by omega)
theorem or_form (x b : Nat) (hx : x < 18446744073709551616) : bits .or .u64 (x : Int) (IntKind.u64.wrap (2 ^ (b % 64))) = ((x ||| 2 ^ (b % 64) : Nat) : Int) := by
  have h : (2 : Nat) ^ (b % 64) < 2 ^ 64 := Nat.pow_lt_pow_right (by omega) (Nat.mod_lt _ (by omega))
  rw [pow_form _ (Nat.mod_lt _ (by omega)), u64_or_nat _ _ hx (by omega)]
theorem add_form (s : Nat → Nat) (hs : W64 s) (b x : Nat) (hx : x = s (b / 64)) : (AV s).setIfInBounds (b / 64) (.int .u64 (bits .or .u64 (x : Int) (IntKind.u64.wrap (2 ^ (b % 64))))) = AV (addB s b) := by
  rw [or_form x b (by rw [hx]; exact hs _), AV_set]
  refine AV_congr fun j _ => ?_
  unfold addB
  by_cases h : j = b / 64
  · subst h; simp [hx]
  · simp [h]

/-! ### the letters of a list -/
/-- the letters put in one by one -/
def ofL (zs : List Nat) : Nat → Nat := zs.foldl addB fun _ => 0
theorem ofL_snoc (zs : List Nat) (b : Nat) : ofL (zs ++ [b]) = addB (ofL zs) b := by simp [ofL]
theorem foldl_addB (zs : List Nat) : ∀ s, (W64 s → W64 (zs.foldl addB s)) ∧ ∀ c, bit (zs.foldl addB s) c = (bit s c || decide (c ∈ zs)) := by
  induction zs with
  | nil => intro s; exact ⟨id, fun c => by simp⟩
  | cons z zs ih =>
    intro s
    refine ⟨fun h => (ih _).1 (addB_W64 h z), fun c => ?_⟩
    rw [List.foldl_cons, (ih _).2, bit_addB]
    by_cases h : c = z <;> simp [h]
theorem ofL_W64 (zs : List Nat) : W64 (ofL zs) := (foldl_addB zs _).1 W64_zero
theorem bit_ofL (zs : List Nat) (c : Nat) : bit (ofL zs) c = decide (c ∈ zs) := by rw [ofL, (foldl_addB zs _).2, bit_zero]; simp
theorem take_snoc' (zs : List Nat) (k : Nat) (h : k < zs.length) : zs.take (k + 1) = zs.take k ++ [zs.getD k 0] := by
  rw [List.take_succ_eq_append_getElem h]; simp [List.getD, h]
end Go.Proofs.YtaagfmpolcpimaaDoor
