/-
  The walk of the reference's Element: what it returns. Conditions: bytes below 256, an index within the text.
-/
import Derived.Test.YtaagfmpolcpimaaWk
namespace Go.Proofs.Ytaagfmpolcpimaa
open Go.RowKit
set_option maxHeartbeats 400000
set_option maxRecDepth 100000
set_option linter.unusedSimpArgs false
set_option linter.unusedVariables false
attribute [local go_sem] strB_len strB_bytes

/-- the element's letter and the index behind it; -1 and the index itself for none -/
def refElt (L : List Nat) (k : Nat) : Int × Nat := if (elt (L.drop k)).2 = 0 then (-1, k) else ((elt (L.drop k)).1, k + (elt (L.drop k)).2)
theorem refElt_no {L : List Nat} {k : Nat} (h : (elt (L.drop k)).2 = 0) : refElt L k = (-1, k) := by unfold refElt; rw [if_pos h]
theorem refElt_yes {L : List Nat} {k b n : Nat} (h : elt (L.drop k) = (b, n)) (hn : n ≠ 0) : refElt L k = ((b : Int), k + n) := by unfold refElt; rw [h]; simp [hn]
def RefEltIs (L : List Nat) (k : Nat) (w : World) (e : Ending) (w' : World) : Prop := e = .returned (.tuple #[.int .i64 (refElt L k).1, .int .i64 (refElt L k).2]) ∧ Below w.heap.size w w'
theorem refElt_ret {L : List Nat} {k : Nat} {w w' : World} (a b : Int) (n : Nat) (h : refElt L k = (a, n)) (h2 : b = n) (hb : Below w.heap.size w w') : RefEltIs L k w (.returned (.tuple #[.int .i64 a, .int .i64 b])) w' := by
  unfold RefEltIs; rw [h, h2]; exact ⟨rfl, hb⟩
theorem at_drop {L r : List Nat} {k : Nat} (h : L.drop k = r) (j : Nat) : L[k + j]? = r[j]? := by rw [← h, List.getElem?_drop]
theorem len_drop {L r : List Nat} {k : Nat} (h : L.drop k = r) (hr : r ≠ []) : L.length = k + r.length := by
  have h1 : (L.drop k).length = r.length := by rw [h]
  have h2 := List.length_pos_iff.2 hr
  rw [List.length_drop] at h1
  omega
section
variable (L : List Nat) (k : Nat) (hL : L.length ≤ 1000000000000000) (w : World)
theorem refElt_end (hk : L.length ≤ k) (hk2 : k ≤ L.length) (hL : L.length ≤ 1000000000000000) : Calls Try.prog 35 #[.string (strB L), .int .i64 k] w (RefEltIs L k w) := by
  have H := Lib.hid (show refElt L k = (-1, k) from refElt_no (by rw [List.drop_eq_nil_of_le hk]; rfl))
  go_enter Try.func35, Try.ntmps35
  go_wp2
  go_ret2
  exact refElt_ret (-1) _ k H.out (by omega) (Below.refl _ _)
theorem refElt_93 (t : List Nat) (hL : L.length ≤ 1000000000000000) (hd : L.drop k = 93 :: t) : Calls Try.prog 35 #[.string (strB L), .int .i64 k] w (RefEltIs L k w) := by
  have i0 := strB_at L k 93 (by omega) (at_drop hd 0)
  have hlen := len_drop hd (by simp)
  simp only [List.length_cons] at hlen
  have l0 : k + 0 < L.length := by omega
  have H := Lib.hid (show refElt L k = (-1, k) from refElt_no (by rw [hd]; simp [elt, esc]))
  clear hd hlen
  go_enter Try.func35, Try.ntmps35
  go_wp2
  go_ret2
  exact refElt_ret (-1) _ k H.out (by omega) (Below.refl _ _)
theorem refElt_45 (t : List Nat) (hL : L.length ≤ 1000000000000000) (hd : L.drop k = 45 :: t) : Calls Try.prog 35 #[.string (strB L), .int .i64 k] w (RefEltIs L k w) := by
  have i0 := strB_at L k 45 (by omega) (at_drop hd 0)
  have hlen := len_drop hd (by simp)
  simp only [List.length_cons] at hlen
  have l0 : k + 0 < L.length := by omega
  have H := Lib.hid (show refElt L k = (-1, k) from refElt_no (by rw [hd]; simp [elt, esc]))
  clear hd hlen
  go_enter Try.func35, Try.ntmps35
  go_wp2
  go_ret2
  exact refElt_ret (-1) _ k H.out (by omega) (Below.refl _ _)
theorem refElt_plain (c : Nat) (hc : c < 256) (t : List Nat) (hL : L.length ≤ 1000000000000000) (hd : L.drop k = c :: t) (n1 : c ≠ 93) (n2 : c ≠ 45) (n3 : c ≠ 92) : Calls Try.prog 35 #[.string (strB L), .int .i64 k] w (RefEltIs L k w) := by
  have i0 := strB_at L k c hc (at_drop hd 0)
  have hlen := len_drop hd (by simp)
  simp only [List.length_cons] at hlen
  have l0 : k + 0 < L.length := by omega
  have H := Lib.hid (show refElt L k = ((c : Int), k + 1) from refElt_yes (by rw [hd]; simp [elt, esc, n1, n2, n3]) (by omega))
  have b1 : ((c : Int) == 93) = false := beq_eq_false_iff_ne.2 (by omega)
  have b2 : ((c : Int) == 45) = false := beq_eq_false_iff_ne.2 (by omega)
  have b3 : ((c : Int) != 92) = true := by rw [bne_iff_ne]; omega
  clear n1 n2 n3
  clear hd hlen
  go_enter Try.func35, Try.ntmps35
  go_wp2
  go_ret2
  exact refElt_ret c _ (k + 1) H.out (by omega) (Below.refl _ _)
theorem refElt_92 (hL : L.length ≤ 1000000000000000) (hd : L.drop k = 92 :: []) : Calls Try.prog 35 #[.string (strB L), .int .i64 k] w (RefEltIs L k w) := by
  have i0 := strB_at L k 92 (by omega) (at_drop hd 0)
  have hlen := len_drop hd (by simp)
  simp only [List.length_cons] at hlen
  have l0 : k + 0 < L.length := by omega
  have H := Lib.hid (show refElt L k = (-1, k) from refElt_no (by rw [hd]; simp [elt, esc]))
  have g1 : L.length ≤ k + 1 := by simp at hlen; omega
  clear hd hlen
  go_enter Try.func35, Try.ntmps35
  go_wp2
  go_ret2
  exact refElt_ret (-1) _ k H.out (by omega) (Below.refl _ _)
theorem refElt_110 (t : List Nat) (hL : L.length ≤ 1000000000000000) (hd : L.drop k = 92 :: 110 :: t) : Calls Try.prog 35 #[.string (strB L), .int .i64 k] w (RefEltIs L k w) := by
  have i0 := strB_at L k 92 (by omega) (at_drop hd 0)
  have i1 := strB_at L (k + 1) 110 (by omega) (at_drop hd 1)
  have hlen := len_drop hd (by simp)
  simp only [List.length_cons] at hlen
  have l0 : k + 0 < L.length := by omega
  have l1 : k + 1 < L.length := by omega
  have H := Lib.hid (show refElt L k = (((10 : Nat) : Int), k + 2) from refElt_yes (by rw [hd]; simp [elt, esc]) (by omega))
  clear hd hlen
  go_enter Try.func35, Try.ntmps35
  go_wp2
  go_ret2
  exact refElt_ret 10 _ (k + 2) H.out (by omega) (Below.refl _ _)
theorem refElt_116 (t : List Nat) (hL : L.length ≤ 1000000000000000) (hd : L.drop k = 92 :: 116 :: t) : Calls Try.prog 35 #[.string (strB L), .int .i64 k] w (RefEltIs L k w) := by
  have i0 := strB_at L k 92 (by omega) (at_drop hd 0)
  have i1 := strB_at L (k + 1) 116 (by omega) (at_drop hd 1)
  have hlen := len_drop hd (by simp)
  simp only [List.length_cons] at hlen
  have l0 : k + 0 < L.length := by omega
  have l1 : k + 1 < L.length := by omega
  have H := Lib.hid (show refElt L k = (((9 : Nat) : Int), k + 2) from refElt_yes (by rw [hd]; simp [elt, esc]) (by omega))
  clear hd hlen
  go_enter Try.func35, Try.ntmps35
  go_wp2
  go_ret2
  exact refElt_ret 9 _ (k + 2) H.out (by omega) (Below.refl _ _)
theorem refElt_114 (t : List Nat) (hL : L.length ≤ 1000000000000000) (hd : L.drop k = 92 :: 114 :: t) : Calls Try.prog 35 #[.string (strB L), .int .i64 k] w (RefEltIs L k w) := by
  have i0 := strB_at L k 92 (by omega) (at_drop hd 0)
  have i1 := strB_at L (k + 1) 114 (by omega) (at_drop hd 1)
  have hlen := len_drop hd (by simp)
  simp only [List.length_cons] at hlen
  have l0 : k + 0 < L.length := by omega
  have l1 : k + 1 < L.length := by omega
  have H := Lib.hid (show refElt L k = (((13 : Nat) : Int), k + 2) from refElt_yes (by rw [hd]; simp [elt, esc]) (by omega))
  clear hd hlen
  go_enter Try.func35, Try.ntmps35
  go_wp2
  go_ret2
  exact refElt_ret 13 _ (k + 2) H.out (by omega) (Below.refl _ _)
theorem refElt_ptrue (d : Nat) (hd0 : d < 256) (t : List Nat) (hL : L.length ≤ 1000000000000000) (hd : L.drop k = 92 :: d :: t) (n1 : d ≠ 110) (n2 : d ≠ 116) (n3 : d ≠ 114) (n4 : d ≠ 120) (hp : punc d = true) : Calls Try.prog 35 #[.string (strB L), .int .i64 k] w (RefEltIs L k w) := by
  have i0 := strB_at L k 92 (by omega) (at_drop hd 0)
  have i1 := strB_at L (k + 1) d hd0 (at_drop hd 1)
  have hlen := len_drop hd (by simp)
  simp only [List.length_cons] at hlen
  have l0 : k + 0 < L.length := by omega
  have l1 : k + 1 < L.length := by omega
  have H := Lib.hid (show refElt L k = ((d : Int), k + 2) from refElt_yes (by rw [hd]; simp [elt, esc, n1, n2, n3, n4, hp]) (by omega))
  have b1 : ((d : Int) == 110) = false := beq_eq_false_iff_ne.2 (by omega)
  have b2 : ((d : Int) == 116) = false := beq_eq_false_iff_ne.2 (by omega)
  have b3 : ((d : Int) == 114) = false := beq_eq_false_iff_ne.2 (by omega)
  have b4 : ((d : Int) == 120) = false := beq_eq_false_iff_ne.2 (by omega)
  have HP := Lib.hid hp
  clear hp n1 n2 n3 n4
  clear hd hlen
  go_enter Try.func35, Try.ntmps35
  go_wp2_with fail
  refine (refPunct_c d hd0 _).mono ?_
  rintro e w' ⟨rfl, rfl⟩
  rw [HP.out]
  go_wp2
  go_ret2
  exact refElt_ret d _ (k + 2) H.out (by omega) (Below.refl _ _)
theorem refElt_pfalse (d : Nat) (hd0 : d < 256) (t : List Nat) (hL : L.length ≤ 1000000000000000) (hd : L.drop k = 92 :: d :: t) (n1 : d ≠ 110) (n2 : d ≠ 116) (n3 : d ≠ 114) (n4 : d ≠ 120) (hp : punc d = false) : Calls Try.prog 35 #[.string (strB L), .int .i64 k] w (RefEltIs L k w) := by
  have i0 := strB_at L k 92 (by omega) (at_drop hd 0)
  have i1 := strB_at L (k + 1) d hd0 (at_drop hd 1)
  have hlen := len_drop hd (by simp)
  simp only [List.length_cons] at hlen
  have l0 : k + 0 < L.length := by omega
  have l1 : k + 1 < L.length := by omega
  have H := Lib.hid (show refElt L k = (-1, k) from refElt_no (by rw [hd]; simp [elt, esc, n1, n2, n3, n4, hp]))
  have b1 : ((d : Int) == 110) = false := beq_eq_false_iff_ne.2 (by omega)
  have b2 : ((d : Int) == 116) = false := beq_eq_false_iff_ne.2 (by omega)
  have b3 : ((d : Int) == 114) = false := beq_eq_false_iff_ne.2 (by omega)
  have b4 : ((d : Int) == 120) = false := beq_eq_false_iff_ne.2 (by omega)
  have HP := Lib.hid hp
  clear hp n1 n2 n3 n4
  clear hd hlen
  go_enter Try.func35, Try.ntmps35
  go_wp2_with fail
  refine (refPunct_c d hd0 _).mono ?_
  rintro e w' ⟨rfl, rfl⟩
  rw [HP.out]
  go_wp2
  go_ret2
  exact refElt_ret (-1) _ k H.out (by omega) (Below.refl _ _)
theorem refElt_xs (t : List Nat) (hL : L.length ≤ 1000000000000000) (hd : L.drop k = 92 :: 120 :: t) (hs : t.length < 2) : Calls Try.prog 35 #[.string (strB L), .int .i64 k] w (RefEltIs L k w) := by
  have i0 := strB_at L k 92 (by omega) (at_drop hd 0)
  have i1 := strB_at L (k + 1) 120 (by omega) (at_drop hd 1)
  have hlen := len_drop hd (by simp)
  simp only [List.length_cons] at hlen
  have l0 : k + 0 < L.length := by omega
  have l1 : k + 1 < L.length := by omega
  have g1 : L.length ≤ k + 3 := by omega
  have H := Lib.hid (show refElt L k = (-1, k) from refElt_no (by
    rw [hd]
    match t, hs with
    | [], _ => simp [elt, esc]
    | [_], _ => simp [elt, esc]
    | _ :: _ :: _, hs => simp only [List.length_cons] at hs; omega))
  clear hd hlen
  clear hs
  go_enter Try.func35, Try.ntmps35
  go_wp2
  go_ret2
  exact refElt_ret (-1) _ k H.out (by omega) (Below.refl _ _)
theorem refElt_x1 (x y : Nat) (hx : x < 256) (hy : y < 256) (t : List Nat) (hL : L.length ≤ 1000000000000000) (hd : L.drop k = 92 :: 120 :: x :: y :: t) (hX : hexv x < 0) : Calls Try.prog 35 #[.string (strB L), .int .i64 k] w (RefEltIs L k w) := by
  have i0 := strB_at L k 92 (by omega) (at_drop hd 0)
  have i1 := strB_at L (k + 1) 120 (by omega) (at_drop hd 1)
  have i2 := strB_at L (k + 2) x hx (at_drop hd 2)
  have i3 := strB_at L (k + 3) y hy (at_drop hd 3)
  have hlen := len_drop hd (by simp)
  simp only [List.length_cons] at hlen
  have l0 : k + 0 < L.length := by omega
  have l1 : k + 1 < L.length := by omega
  have l2 : k + 2 < L.length := by omega
  have l3 : k + 3 < L.length := by omega
  have H := Lib.hid (show refElt L k = (-1, k) from refElt_no (by rw [hd, elt_x_no t (.inl hX)]))
  have q1 := (hexv_le x).1
  have q2 := (hexv_le x).2
  have q3 := (hexv_le y).1
  have q4 := (hexv_le y).2
  clear hd hlen
  go_enter Try.func35, Try.ntmps35
  go_wp2_with fail
  refine (hex_c x hx _).mono ?_
  rintro e w' ⟨rfl, rfl⟩
  go_wp2
  go_ret2
  exact refElt_ret (-1) _ k H.out (by omega) (Below.refl _ _)
theorem refElt_x2 (x y : Nat) (hx : x < 256) (hy : y < 256) (t : List Nat) (hL : L.length ≤ 1000000000000000) (hd : L.drop k = 92 :: 120 :: x :: y :: t) (hX : 0 ≤ hexv x) (hY : hexv y < 0) : Calls Try.prog 35 #[.string (strB L), .int .i64 k] w (RefEltIs L k w) := by
  have i0 := strB_at L k 92 (by omega) (at_drop hd 0)
  have i1 := strB_at L (k + 1) 120 (by omega) (at_drop hd 1)
  have i2 := strB_at L (k + 2) x hx (at_drop hd 2)
  have i3 := strB_at L (k + 3) y hy (at_drop hd 3)
  have hlen := len_drop hd (by simp)
  simp only [List.length_cons] at hlen
  have l0 : k + 0 < L.length := by omega
  have l1 : k + 1 < L.length := by omega
  have l2 : k + 2 < L.length := by omega
  have l3 : k + 3 < L.length := by omega
  have H := Lib.hid (show refElt L k = (-1, k) from refElt_no (by rw [hd, elt_x_no t (.inr hY)]))
  have q1 := (hexv_le x).1
  have q2 := (hexv_le x).2
  have q3 := (hexv_le y).1
  have q4 := (hexv_le y).2
  clear hd hlen
  go_enter Try.func35, Try.ntmps35
  go_wp2_with fail
  refine (hex_c x hx _).mono ?_
  rintro e w' ⟨rfl, rfl⟩
  go_wp2_with fail
  refine (hex_c y hy _).mono ?_
  rintro e w' ⟨rfl, rfl⟩
  go_wp2
  go_ret2
  exact refElt_ret (-1) _ k H.out (by omega) (Below.refl _ _)
theorem refElt_x3 (x y : Nat) (hx : x < 256) (hy : y < 256) (t : List Nat) (hL : L.length ≤ 1000000000000000) (hd : L.drop k = 92 :: 120 :: x :: y :: t) (hX : 0 ≤ hexv x) (hY : 0 ≤ hexv y) : Calls Try.prog 35 #[.string (strB L), .int .i64 k] w (RefEltIs L k w) := by
  have i0 := strB_at L k 92 (by omega) (at_drop hd 0)
  have i1 := strB_at L (k + 1) 120 (by omega) (at_drop hd 1)
  have i2 := strB_at L (k + 2) x hx (at_drop hd 2)
  have i3 := strB_at L (k + 3) y hy (at_drop hd 3)
  have hlen := len_drop hd (by simp)
  simp only [List.length_cons] at hlen
  have l0 : k + 0 < L.length := by omega
  have l1 : k + 1 < L.length := by omega
  have l2 : k + 2 < L.length := by omega
  have l3 : k + 3 < L.length := by omega
  have H := Lib.hid (show refElt L k = (16 * hexv x + hexv y, k + 4) from by unfold refElt; rw [hd, elt_x_yes t ⟨hX, hY⟩]; simp; omega)
  have q1 := (hexv_le x).1
  have q2 := (hexv_le x).2
  have q3 := (hexv_le y).1
  have q4 := (hexv_le y).2
  clear hd hlen
  go_enter Try.func35, Try.ntmps35
  go_wp2_with fail
  refine (hex_c x hx _).mono ?_
  rintro e w' ⟨rfl, rfl⟩
  go_wp2_with fail
  refine (hex_c y hy _).mono ?_
  rintro e w' ⟨rfl, rfl⟩
  go_wp2_with fail
  go_quiet ((go_at_call 38; exact Calls.quiet_of_same (hex_q _ (by assumption) _)))
  go_wp2
  go_ret2
  exact refElt_ret _ _ (k + 4) H.out (by omega) (below_drewN (Below.refl _ _) _)
end
/-- what Element returns, for every text and index within it -/
theorem refElement_c (L : List Nat) (hl : ∀ x ∈ L, x < 256) (k : Nat) (hk : k ≤ L.length) (hL : L.length ≤ 1000000000000000) (w : World) : Calls Try.prog 35 #[.string (strB L), .int .i64 k] w (RefEltIs L k w) := by
  obtain ⟨l, hd⟩ : ∃ l, L.drop k = l := ⟨_, rfl⟩
  have hl : ∀ x ∈ l, x < 256 := fun x hx => hl x (List.mem_of_mem_drop (by rw [hd]; exact hx))
  cases l with
  | nil => exact refElt_end L k w (List.drop_eq_nil_iff.1 hd) hk hL
  | cons c t =>
    have hc := hl c (by simp)
    by_cases n1 : c = 93
    · subst n1; exact refElt_93 L k w t hL hd
    by_cases n2 : c = 45
    · subst n2; exact refElt_45 L k w t hL hd
    by_cases n3 : c = 92
    · subst n3
      cases t with
      | nil => exact refElt_92 L k w hL hd
      | cons d t =>
        have hd0 := hl d (by simp)
        by_cases m1 : d = 110
        · subst m1; exact refElt_110 L k w t hL hd
        by_cases m2 : d = 116
        · subst m2; exact refElt_116 L k w t hL hd
        by_cases m3 : d = 114
        · subst m3; exact refElt_114 L k w t hL hd
        by_cases m4 : d = 120
        · subst m4
          by_cases hs : t.length < 2
          · exact refElt_xs L k w t hL hd hs
          · match t, hs, hd, hl with
            | x :: y :: t, _, hd, hl =>
              by_cases hX : hexv x < 0
              · exact refElt_x1 L k w x y (hl x (by simp)) (hl y (by simp)) t hL hd hX
              by_cases hY : hexv y < 0
              · exact refElt_x2 L k w x y (hl x (by simp)) (hl y (by simp)) t hL hd (by omega) hY
              exact refElt_x3 L k w x y (hl x (by simp)) (hl y (by simp)) t hL hd (by omega) (by omega)
            | [], hs, _, _ => simp at hs
            | [_], hs, _, _ => simp at hs
        cases hp : punc d with
        | true => exact refElt_ptrue L k w d hd0 t hL hd m1 m2 m3 m4 hp
        | false => exact refElt_pfalse L k w d hd0 t hL hd m1 m2 m3 m4 hp
    · exact refElt_plain L k w c hc t hL hd n1 n2 n3
end Go.Proofs.Ytaagfmpolcpimaa
