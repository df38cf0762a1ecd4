/-
  The walk of letterset's element, its last ways: hexadecimal and punctuation. Conditions: bytes below 256.
-/
import Derived.Test.YtaagfmpolcpimaaWj
import Derived.Deep.QuietTactic
import Derived.BigQuiet
namespace Go.Proofs.Ytaagfmpolcpimaa
open Go.RowKit
set_option maxHeartbeats 400000
set_option maxRecDepth 100000
set_option linter.unusedSimpArgs false
set_option linter.unusedVariables false
attribute [local go_sem] strB_len strB_bytes

theorem digit_q (b : Nat) (hb : b < 256) (w : World) : Calls Try.prog 36 #[.int .u8 b] w fun e w' => e = .returned (.int .i64 (hexv b)) ∧ w' = w := (digit_c b hb w).mono fun _ _ ⟨h1, h2⟩ => ⟨h1, h2.symm⟩
theorem hex_q (b : Nat) (hb : b < 256) (w : World) : Calls Try.prog 38 #[.int .u8 b] w fun e w' => e = .returned (.int .i64 (hexv b)) ∧ w' = w := (hex_c b hb w).mono fun _ _ ⟨h1, h2⟩ => ⟨h1, h2.symm⟩
theorem element_x0 (w : World) : Calls Try.prog 34 #[.string (strB [92, 120])] w (EltIs [92, 120] w) := by
  have h0 := strB_at [92, 120] 0 92 (by omega) rfl
  have h1 := strB_at [92, 120] 1 120 (by omega) rfl
  have H := Lib.hid (show elt [92, 120] = (0, 0) by simp [elt, esc])
  go_enter Try.func34, Try.ntmps34
  go_wp2
  go_ret2
  exact elt_ret 0 0 H.out
theorem element_x1 (x : Nat) (w : World) : Calls Try.prog 34 #[.string (strB [92, 120, x])] w (EltIs [92, 120, x] w) := by
  have h0 := strB_at [92, 120, x] 0 92 (by omega) rfl
  have h1 := strB_at [92, 120, x] 1 120 (by omega) rfl
  have H := Lib.hid (show elt [92, 120, x] = (0, 0) by simp [elt, esc])
  go_enter Try.func34, Try.ntmps34
  go_wp2
  go_ret2
  exact elt_ret 0 0 H.out
theorem elt_x_no {x y : Nat} (t : List Nat) (h : hexv x < 0 ∨ hexv y < 0) : elt (92 :: 120 :: x :: y :: t) = (0, 0) := by
  simp only [elt, esc]
  rw [if_neg (by omega), if_neg (by omega), if_neg (by omega), if_neg (by omega), if_neg (by omega), if_pos trivial, if_pos h]
theorem elt_x_yes {x y : Nat} (t : List Nat) (h : 0 ≤ hexv x ∧ 0 ≤ hexv y) : elt (92 :: 120 :: x :: y :: t) = ((hexv x * 16 + hexv y).toNat, 4) := by
  simp only [elt, esc]
  rw [if_neg (by omega), if_neg (by omega), if_neg (by omega), if_neg (by omega), if_neg (by omega), if_pos trivial, if_neg (by omega)]
theorem ret_bi {a b : Int} {n : Nat} (h : a = b) : Ending.returned (.tuple #[.int .u8 a, .int .i64 n]) = .returned (.tuple #[.int .u8 b, .int .i64 n]) := by rw [h]
theorem element_x2 (x y : Nat) (hx : x < 256) (hy : y < 256) (t : List Nat) (w : World) : Calls Try.prog 34 #[.string (strB (92 :: 120 :: x :: y :: t))] w fun e w' => ∃ n, EltIs (92 :: 120 :: x :: y :: t) (w.drewN n) e w' := by
  have h0 := strB_at (92 :: 120 :: x :: y :: t) 0 92 (by omega) rfl
  have h1 := strB_at (92 :: 120 :: x :: y :: t) 1 120 (by omega) rfl
  have h2 := strB_at (92 :: 120 :: x :: y :: t) 2 x hx rfl
  have h3 := strB_at (92 :: 120 :: x :: y :: t) 3 y hy rfl
  have q1 := (hexv_le x).1
  have q2 := (hexv_le x).2
  have q3 := (hexv_le y).1
  have q4 := (hexv_le y).2
  go_enter Try.func34, Try.ntmps34
  go_wp2
  go_quiet ((go_at_call 36; exact Calls.quiet_of_same (digit_q _ (by assumption) _)))
  go_wp2
  all_goals go_ret2
  · exact ⟨_, elt_ret 0 0 (elt_x_no t (by assumption))⟩
  · refine ⟨_, ?_, rfl⟩
    rw [elt_x_yes t (by assumption)]
    exact ret_bi (by simp only []; omega)
  · exact ⟨_, elt_ret 0 0 (elt_x_no t (.inl (by assumption)))⟩
theorem element_p (d : Nat) (hd : d < 256) (t : List Nat) (w : World) (n1 : d ≠ 110) (n2 : d ≠ 116) (n3 : d ≠ 114) (n4 : d ≠ 120) : Calls Try.prog 34 #[.string (strB (92 :: d :: t))] w (EltIs (92 :: d :: t) w) := by
  have h0 := strB_at (92 :: d :: t) 0 92 (by omega) rfl
  have h1 := strB_at (92 :: d :: t) 1 d hd rfl
  have b1 : ((d : Int) == 110) = false := beq_eq_false_iff_ne.2 (by omega)
  have b2 : ((d : Int) == 116) = false := beq_eq_false_iff_ne.2 (by omega)
  have b3 : ((d : Int) == 114) = false := beq_eq_false_iff_ne.2 (by omega)
  have b4 : ((d : Int) == 120) = false := beq_eq_false_iff_ne.2 (by omega)
  cases hp : punc d with
  | true =>
    have H := Lib.hid (show elt (92 :: d :: t) = (d, 2) by simp [elt, esc, n1, n2, n3, n4, hp])
    have HP := Lib.hid hp
    clear hp n1 n2 n3 n4
    go_enter Try.func34, Try.ntmps34
    go_wp2_with fail
    refine (punctuation_c d hd _).mono ?_
    rintro e w' ⟨rfl, rfl⟩
    rw [HP.out]
    go_wp2
    go_ret2
    exact elt_ret d 2 H.out
  | false =>
    have H := Lib.hid (show elt (92 :: d :: t) = (0, 0) by simp [elt, esc, n1, n2, n3, n4, hp])
    have HP := Lib.hid hp
    clear hp n1 n2 n3 n4
    go_enter Try.func34, Try.ntmps34
    go_wp2_with fail
    refine (punctuation_c d hd _).mono ?_
    rintro e w' ⟨rfl, rfl⟩
    rw [HP.out]
    go_wp2
    go_ret2
    exact elt_ret 0 0 H.out

/-- what element returns, for every text -/
theorem element_c' (l : List Nat) (hl : ∀ x ∈ l, x < 256) (w : World) : Calls Try.prog 34 #[.string (strB l)] w fun e w' => ∃ n, EltIs l (w.drewN n) e w' := by
  have up : ∀ {e : Ending} {w' : World}, EltIs l w e w' → ∃ n, EltIs l (w.drewN n) e w' := fun h => ⟨0, h⟩
  cases l with
  | nil => exact (element_nil w).mono fun _ _ h => up h
  | cons c t =>
    have hc := hl c (by simp)
    by_cases n1 : c = 93
    · subst n1; exact (element_93 t w).mono fun _ _ h => up h
    by_cases n2 : c = 45
    · subst n2; exact (element_45 t w).mono fun _ _ h => up h
    by_cases n3 : c = 92
    · subst n3
      cases t with
      | nil => exact (element_92 w).mono fun _ _ h => up h
      | cons d t =>
        have hd := hl d (by simp)
        by_cases m1 : d = 110
        · subst m1; exact (element_110 t w).mono fun _ _ h => up h
        by_cases m2 : d = 116
        · subst m2; exact (element_116 t w).mono fun _ _ h => up h
        by_cases m3 : d = 114
        · subst m3; exact (element_114 t w).mono fun _ _ h => up h
        by_cases m4 : d = 120
        · subst m4
          match t, hl with
          | [], _ => exact (element_x0 w).mono fun _ _ h => up h
          | [x], _ => exact (element_x1 x w).mono fun _ _ h => up h
          | x :: y :: t, hl => exact element_x2 x y (hl x (by simp)) (hl y (by simp)) t w
        exact (element_p d hd t w m1 m2 m3 m4).mono fun _ _ h => up h
    · exact (element_c c t hc w n1 n2 n3).mono fun _ _ h => up h
theorem elementAny (l : List Nat) (hl : ∀ x ∈ l, x < 256) (w : World) : Calls Try.prog 34 #[.string (strB l)] w fun e w' => e = .returned (.tuple #[.int .u8 (elt l).1, .int .i64 (elt l).2]) ∧ Below w.heap.size w w' :=
  (element_c' l hl w).mono fun e w' ⟨n, h1, h2⟩ => ⟨h1, by rw [← h2]; exact below_drewN (Below.refl _ _) n⟩
end Go.Proofs.Ytaagfmpolcpimaa
