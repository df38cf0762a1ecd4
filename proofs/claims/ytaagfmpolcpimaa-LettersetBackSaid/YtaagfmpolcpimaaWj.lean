/-
  The walks of the readers of digits and punctuation, and of letterset's element: what each returns. Conditions: bytes below 256.
-/
import Derived.Test.YtaagfmpolcpimaaElt
import Derived.BigQuiet
namespace Go.Proofs.Ytaagfmpolcpimaa
open Go.RowKit
set_option maxHeartbeats 400000
set_option maxRecDepth 100000
set_option linter.unusedSimpArgs false
set_option linter.unusedVariables false

theorem ret_i {k : IntKind} {a b : Int} (h : a = b) : Ending.returned (.int k a) = .returned (.int k b) := by rw [h]
theorem ret_b {a b : Bool} (h : a = b) : Ending.returned (.bool a) = .returned (.bool b) := by rw [h]

theorem digit_c (b : Nat) (hb : b < 256) (w : World) : Calls Try.prog 36 #[.int .u8 b] w fun e w' => e = .returned (.int .i64 (hexv b)) ∧ w = w' := by
  go_enter Try.func36, Try.ntmps36
  go_wp2
  all_goals
    go_ret
    exact ⟨ret_i (by unfold hexv; (repeat' split) <;> omega), rfl⟩
theorem hex_c (b : Nat) (hb : b < 256) (w : World) : Calls Try.prog 38 #[.int .u8 b] w fun e w' => e = .returned (.int .i64 (hexv b)) ∧ w = w' := by
  go_enter Try.func38, Try.ntmps38
  go_wp2
  all_goals
    go_ret
    exact ⟨ret_i (by unfold hexv; (repeat' split) <;> omega), rfl⟩
theorem punctuation_c (b : Nat) (hb : b < 256) (w : World) : Calls Try.prog 37 #[.int .u8 b] w fun e w' => e = .returned (.bool (punc b)) ∧ w = w' := by
  go_enter Try.func37, Try.ntmps37
  go_wp2
  all_goals
    go_ret
    exact ⟨ret_b (by unfold punc; rw [Bool.eq_iff_iff]; simp; try omega), rfl⟩
theorem refPunct_c (b : Nat) (hb : b < 256) (w : World) : Calls Try.prog 39 #[.int .u8 b] w fun e w' => e = .returned (.bool (punc b)) ∧ w = w' := by
  go_enter Try.func39, Try.ntmps39
  go_wp2
  all_goals
    go_ret
    exact ⟨ret_b (by unfold punc; rw [Bool.eq_iff_iff]; simp; try omega), rfl⟩

theorem run_index_strB {P : Program} (w : World) (t : TypeId) (l : List Nat) (k : IntKind) (i : Int) (h : P.underlying t = some .string) (h0 : 0 ≤ i) (h1 : i < l.length) (h2 : l.getD i.toNat 0 < 256) :
    (Instr.index t (.string (strB l)) (.int k i)).run P w = .ok (.int .u8 (l.getD i.toNat 0 : Nat)) w := by
  rw [run_index_string _ _ _ _ _ h, dif_pos ⟨h0, by rw [strB_size]; exact h1⟩]
  have h3 : i.toNat < l.length := by omega
  have e : l.getD i.toNat 0 = l[i.toNat] := by simp [List.getD, h3]
  rw [e] at h2 ⊢
  congr 3
  unfold strB
  show ((l.map UInt8.ofNat).toArray[i.toNat]'_).toNat = _
  simp [Nat.mod_eq_of_lt h2]
theorem strB_len (l : List Nat) : (strB l).size = l.length := strB_size l
theorem strB_bytes (l : List Nat) : (strB l).toList = l.map UInt8.ofNat := by
  rw [ByteArray.toList_eq]; unfold strB; simp
theorem strB_empty (l : List Nat) : ((strB l).toList == []) = l.isEmpty := by
  rw [strB_bytes]; cases l <;> rfl
theorem strB_cut (l : List Nat) (i : Nat) : (strB l).extract i (strB l).size = strB (l.drop i) := by
  apply ByteArray.ext
  unfold strB
  simp [ByteArray.size]
  exact List.take_of_length_le (by simp)
attribute [local go_sem] strB_len strB_bytes
theorem strB_at (l : List Nat) (i : Nat) (b : Nat) (hb : b < 256) (he : l[i]? = some b) : ∀ h, ((strB l)[i]'h).toNat = b := by
  intro h
  obtain ⟨h3, e⟩ := List.getElem?_eq_some_iff.1 he
  subst e
  unfold strB at h ⊢
  show ((l.map UInt8.ofNat).toArray[i]'_).toNat = _
  simp [Nat.mod_eq_of_lt hb]
def EltIs (l : List Nat) (w : World) (e : Ending) (w' : World) : Prop := e = .returned (.tuple #[.int .u8 (elt l).1, .int .i64 (elt l).2]) ∧ w = w'
theorem elt_ret {l : List Nat} {w : World} (b n : Nat) (h : elt l = (b, n)) : EltIs l w (.returned (.tuple #[.int .u8 b, .int .i64 n])) w := by
  unfold EltIs; rw [h]; exact ⟨rfl, rfl⟩

theorem element_nil (w : World) : Calls Try.prog 34 #[.string (strB [])] w (EltIs [] w) := by
  go_enter Try.func34, Try.ntmps34
  go_wp2
  go_ret2
  exact elt_ret 0 0 rfl
theorem element_93 (t : List Nat) (w : World) : Calls Try.prog 34 #[.string (strB (93 :: t))] w (EltIs (93 :: t) w) := by
  have h0 := strB_at (93 :: t) 0 93 (by omega) rfl
  have H := Lib.hid (show elt (93 :: t) = (0, 0) by simp [elt])
  go_enter Try.func34, Try.ntmps34
  go_wp2
  go_ret2
  exact elt_ret 0 0 H.out
theorem element_45 (t : List Nat) (w : World) : Calls Try.prog 34 #[.string (strB (45 :: t))] w (EltIs (45 :: t) w) := by
  have h0 := strB_at (45 :: t) 0 45 (by omega) rfl
  have H := Lib.hid (show elt (45 :: t) = (0, 0) by simp [elt])
  go_enter Try.func34, Try.ntmps34
  go_wp2
  go_ret2
  exact elt_ret 0 0 H.out
theorem element_c (c : Nat) (t : List Nat) (hc : c < 256) (w : World) (n1 : c ≠ 93) (n2 : c ≠ 45) (n3 : c ≠ 92) : Calls Try.prog 34 #[.string (strB (c :: t))] w (EltIs (c :: t) w) := by
  have h0 := strB_at (c :: t) 0 c hc rfl
  have H := Lib.hid (show elt (c :: t) = (c, 1) by simp [elt, n1, n2, n3])
  have b1 : ((c : Int) == 93) = false := beq_eq_false_iff_ne.2 (by omega)
  have b2 : ((c : Int) == 45) = false := beq_eq_false_iff_ne.2 (by omega)
  have b3 : ((c : Int) != 92) = true := by rw [bne_iff_ne]; omega
  clear n1 n2 n3
  go_enter Try.func34, Try.ntmps34
  go_wp2
  go_ret2
  exact elt_ret c 1 H.out
theorem element_92 (w : World) : Calls Try.prog 34 #[.string (strB [92])] w (EltIs [92] w) := by
  have h0 := strB_at [92] 0 92 (by omega) rfl
  have H := Lib.hid (show elt [92] = (0, 0) by simp [elt])
  go_enter Try.func34, Try.ntmps34
  go_wp2
  go_ret2
  exact elt_ret 0 0 H.out
theorem element_110 (t : List Nat) (w : World) : Calls Try.prog 34 #[.string (strB (92 :: 110 :: t))] w (EltIs (92 :: 110 :: t) w) := by
  have h0 := strB_at (92 :: 110 :: t) 0 92 (by omega) rfl
  have h1 := strB_at (92 :: 110 :: t) 1 110 (by omega) rfl
  have H := Lib.hid (show elt (92 :: 110 :: t) = (10, 2) by simp [elt, esc])
  go_enter Try.func34, Try.ntmps34
  go_wp2
  go_ret2
  exact elt_ret 10 2 H.out
theorem element_116 (t : List Nat) (w : World) : Calls Try.prog 34 #[.string (strB (92 :: 116 :: t))] w (EltIs (92 :: 116 :: t) w) := by
  have h0 := strB_at (92 :: 116 :: t) 0 92 (by omega) rfl
  have h1 := strB_at (92 :: 116 :: t) 1 116 (by omega) rfl
  have H := Lib.hid (show elt (92 :: 116 :: t) = (9, 2) by simp [elt, esc])
  go_enter Try.func34, Try.ntmps34
  go_wp2
  go_ret2
  exact elt_ret 9 2 H.out
theorem element_114 (t : List Nat) (w : World) : Calls Try.prog 34 #[.string (strB (92 :: 114 :: t))] w (EltIs (92 :: 114 :: t) w) := by
  have h0 := strB_at (92 :: 114 :: t) 0 92 (by omega) rfl
  have h1 := strB_at (92 :: 114 :: t) 1 114 (by omega) rfl
  have H := Lib.hid (show elt (92 :: 114 :: t) = (13, 2) by simp [elt, esc])
  go_enter Try.func34, Try.ntmps34
  go_wp2
  go_ret2
  exact elt_ret 13 2 H.out
end Go.Proofs.Ytaagfmpolcpimaa
