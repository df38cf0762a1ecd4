/-
  The notation of bracket classes, read: an element, a whole class; plain functions on lists of bytes, no program in sight. No condition beyond what each states.
-/
import Derived.Test.YtaagfmpolcpimaaStr
import Derived.Test.YtaagfmpolcpimaaWd
namespace Go.Proofs.Ytaagfmpolcpimaa
open Go.RowKit
set_option linter.unusedSimpArgs false
set_option linter.unusedVariables false

/-- a hexadecimal digit's value, -1 for what is none -/
def hexv (b : Nat) : Int := if 48 ≤ b ∧ b ≤ 57 then (b : Int) - 48 else if 97 ≤ b ∧ b ≤ 102 then (b : Int) - 87 else if 65 ≤ b ∧ b ≤ 70 then (b : Int) - 55 else -1
theorem hexv_le (b : Nat) : -1 ≤ hexv b ∧ hexv b ≤ 15 := by unfold hexv; split <;> (try split) <;> (try split) <;> omega
/-- an ASCII punctuation character -/
def punc (b : Nat) : Bool := decide (33 ≤ b ∧ b ≤ 47) || decide (58 ≤ b ∧ b ≤ 64) || decide (91 ≤ b ∧ b ≤ 96) || decide (123 ≤ b ∧ b ≤ 126)
/-- behind a backslash -/
def esc (d : Nat) (t : List Nat) : Nat × Nat :=
  if d = 110 then (10, 2) else if d = 116 then (9, 2) else if d = 114 then (13, 2)
  else if d = 120 then (match t with | x :: y :: _ => if hexv x < 0 ∨ hexv y < 0 then (0, 0) else ((hexv x * 16 + hexv y).toNat, 4) | _ => (0, 0))
  else if punc d = true then (d, 2) else (0, 0)
/-- the element that the bytes begin with: its letter and its length; length 0 for none -/
def elt : List Nat → Nat × Nat
  | [] => (0, 0)
  | c :: t => if c = 93 ∨ c = 45 then (0, 0) else if c ≠ 92 then (c, 1) else (match t with | [] => (0, 0) | d :: t => esc d t)
theorem esc_bd (d : Nat) (t : List Nat) (hd : d < 256) : (esc d t).1 < 256 ∧ (esc d t).2 ≤ 2 + t.length ∧ (esc d t).2 ≤ 4 := by
  unfold esc
  split
  · simp
  split
  · simp
  split
  · simp
  split
  · split
    · rename_i x y t
      split
      · simp
      · have := hexv_le x; have := hexv_le y; simp; omega
    · simp
  split
  · simp; omega
  · simp
theorem elt_bd (l : List Nat) (hl : ∀ x ∈ l, x < 256) : (elt l).1 < 256 ∧ (elt l).2 ≤ l.length ∧ (elt l).2 ≤ 4 := by
  cases l with
  | nil => simp [elt]
  | cons c t =>
    have hc := hl c (List.mem_cons_self ..)
    simp only [elt]
    split
    · simp
    split
    · simp; omega
    cases t with
    | nil => simp
    | cons d t =>
      have := esc_bd d t (hl d (by simp))
      simp; omega
/-- one element or range: low, high, its length; none if there is none -/
def rng (l : List Nat) : Option (Nat × Nat × Nat) :=
  let e := elt l
  if e.2 = 0 then none
  else if l[e.2]? = some 45 then
    let f := elt (l.drop (e.2 + 1))
    if f.2 = 0 ∨ f.1 < e.1 then none else some (e.1, f.1, e.2 + 1 + f.2)
  else some (e.1, e.1, e.2)
theorem rng_pos {l : List Nat} {a b n : Nat} (h : rng l = some (a, b, n)) : 0 < n := by
  unfold rng at h
  simp only at h
  split at h
  · cases h
  split at h
  · split at h
    · cases h
    · simp at h; omega
  · simp at h; omega
/-- the class read on from what is read -/
def prs (l : List Nat) (s : Nat → Nat) : Option (Nat → Nat) :=
  if h : l = [] then some s else match h2 : rng l with
    | none => none
    | some (a, b, n) => prs (l.drop n) (orW s (btw a (b + 1 - a)))
termination_by l.length
decreasing_by
  have := rng_pos h2
  have : 0 < l.length := List.length_pos_iff.2 h
  simp; omega
theorem prs_nil (s : Nat → Nat) : prs [] s = some s := by rw [prs.eq_def]; simp
theorem prs_none {l : List Nat} (h : l ≠ []) (h2 : rng l = none) (s : Nat → Nat) : prs l s = none := by
  rw [prs.eq_def, dif_neg h]; split <;> simp_all
theorem prs_some {l : List Nat} {a b n : Nat} (h : l ≠ []) (h2 : rng l = some (a, b, n)) (s : Nat → Nat) : prs l s = prs (l.drop n) (orW s (btw a (b + 1 - a))) := by
  rw [prs.eq_def, dif_neg h]; split <;> simp_all
theorem rng_no {l : List Nat} (h : (elt l).2 = 0) : rng l = none := by unfold rng; simp [h]
theorem rng_one {l : List Nat} (h : (elt l).2 ≠ 0) (h2 : l[(elt l).2]? ≠ some 45) : rng l = some ((elt l).1, (elt l).1, (elt l).2) := by unfold rng; simp only [h, h2, if_false]
theorem rng_bad {l : List Nat} (h : (elt l).2 ≠ 0) (h2 : l[(elt l).2]? = some 45) (h3 : (elt (l.drop ((elt l).2 + 1))).2 = 0 ∨ (elt (l.drop ((elt l).2 + 1))).1 < (elt l).1) : rng l = none := by
  unfold rng; simp only [h, h2, h3, if_true, if_false]
theorem rng_two {l : List Nat} (h : (elt l).2 ≠ 0) (h2 : l[(elt l).2]? = some 45) (h3 : ¬ ((elt (l.drop ((elt l).2 + 1))).2 = 0 ∨ (elt (l.drop ((elt l).2 + 1))).1 < (elt l).1)) :
    rng l = some ((elt l).1, (elt (l.drop ((elt l).2 + 1))).1, (elt l).2 + 1 + (elt (l.drop ((elt l).2 + 1))).2) := by
  unfold rng; simp only [h, h2, h3, if_true, if_false]
end Go.Proofs.Ytaagfmpolcpimaa
