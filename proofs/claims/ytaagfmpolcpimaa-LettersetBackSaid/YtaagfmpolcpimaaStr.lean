/-
  Strings as lists of bytes: joined by '+', made from a row of bytes of the call's own; and the notation of a set of letters, run by run. Conditions: bytes below 256, few of them.
-/
import Derived.Test.YtaagfmpolcpimaaWf
import Derived.Laws.IdiomStrings
import Derived.Laws.Concat
namespace Go.Proofs.Ytaagfmpolcpimaa
open Go.RowKit
set_option linter.unusedSimpArgs false

/-- the string of the bytes -/
def strB (l : List Nat) : ByteArray := ⟨(l.map UInt8.ofNat).toArray⟩
theorem strB_append (a b : List Nat) : strB a ++ strB b = strB (a ++ b) := by
  apply ByteArray.ext
  simp [strB, ByteArray.data_append]
theorem strB_size (l : List Nat) : (strB l).size = l.length := by simp [strB, ByteArray.size]
theorem strB_nil : strB [] = ⟨#[]⟩ := rfl
theorem strB_inj {a b : List Nat} (ha : ∀ x ∈ a, x < 256) (hb : ∀ x ∈ b, x < 256) (h : strB a = strB b) : a = b := by
  have h1 : a.map UInt8.ofNat = b.map UInt8.ofNat := by
    have := congrArg (fun s : ByteArray => s.data.toList) h
    simpa [strB] using this
  have back : ∀ l : List Nat, (∀ x ∈ l, x < 256) → (l.map UInt8.ofNat).map UInt8.toNat = l := by
    intro l hl
    induction l with
    | nil => rfl
    | cons x l ih =>
      have hx := hl x (List.mem_cons_self ..)
      simp only [List.map_cons, ih fun y hy => hl y (List.mem_cons_of_mem _ hy)]
      congr 1
      simp [UInt8.toNat_ofNat', Nat.mod_eq_of_lt hx]
  rw [← back a ha, ← back b hb, h1]
attribute [irreducible] strB

section
variable {P : Program} {ops : Array Oper} {rest : List Oper} {o : Oper} {a : Act} {w : World} {Q : Exit → Act → World → Prop}

theorem wpList_concat (hgd : o.guard = none) (t u : TypeId) (x y : Operand) (ho : o.op = .binOp .add t x y u) (l m : List Nat) (hx : a.eval x = .string (strB l)) (hy : a.eval y = .string (strB m)) (hs : l.length + m.length ≤ 9223372036854775807)
    (h : wpList P ops Q rest (a.put o.dst (.string (strB (l ++ m)))) w) : wpList P ops Q (o :: rest) a w :=
  wpList_plain hgd fun _ hK => by
    unfold Oper.wp execOp
    simp only [ho, hx, hy]
    have := run_string_add_sum (P := P) w (strB l) (strB m) (by rw [strB_size, strB_size]; exact hs)
    rw [strB_append] at this
    have he : (eqGuard BinOp.add t x y (.string (strB l)) (.string (strB m))).run P w = .ok () w := by simp [eqGuard]
    simp only [binOp, Sem.run_bind, he, this, Result.andThen_ok, Sem.run_pure]
    exact hK _ _ h

theorem byV_get (l : List Nat) (j : Nat) (hj : j < l.length) : (byV l)[j]? = some (.int .u8 (l[j] : Nat)) := by simp [byV, hj]

/-- the bytes of a row of the call's own, as a string -/
theorem run_own_string {src dst : TypeId} (hs : P.underlying src = some (.slice 5)) (he : P.underlying 5 = some (.int .u8)) (hd : P.underlying dst = some .string) (B : Nat) (v : Value) (l : List Nat) (hl : ∀ x ∈ l, x < 256) (hown : ownsB w B v l) :
    (convert src dst v).run P w = .ok (.string (strB l)) w := by
  rcases hown.2 with ⟨rfl, hn⟩ | ⟨g, cap, cur, rfl, _⟩
  · have : l = [] := List.eq_nil_of_length_eq_zero hn
    subst this
    rw [run_convert_bytes_string w src dst 5 none 0 0 hs he hd]
    simp [Conv.bytesToString, loadCells, loadCellsFrom, strB_nil]
    rfl
  · have hc := hown.cells (g := g) rfl
    have h := run_convert_bytes_back (P := P) w src dst 5 ⟨g, 0, none⟩ cap (l.map UInt8.ofNat) hs he hd (fun j hj => by
      have hj' : j < l.length := by simpa using hj
      have h1 := hc j _ (byV_get l j hj')
      rw [h1]
      simp [UInt8.toNat_ofNat', Nat.mod_eq_of_lt (hl _ (List.getElem_mem hj'))])
    simp only [List.length_map] at h
    rw [h]
    unfold strB
    rfl
theorem wpList_own_string (hgd : o.guard = none) (src dst : TypeId) (x : Operand) (ho : o.op = .convert src dst x) (hs : P.underlying src = some (.slice 5)) (he : P.underlying 5 = some (.int .u8)) (hd : P.underlying dst = some .string) (B : Nat) (l : List Nat)
    (hl : ∀ x ∈ l, x < 256) (hown : ownsB w B (a.eval x) l) (h : wpList P ops Q rest (a.put o.dst (.string (strB l))) w) : wpList P ops Q (o :: rest) a w :=
  wpList_plain hgd fun _ hK => by
    unfold Oper.wp execOp
    simp only [ho, Sem.run_bind, run_own_string hs he hd B _ l hl hown, Result.andThen_ok, Sem.run_pure]
    exact hK _ _ h
end

/-- the last letter of the run that begins at h -/
def top (s : Nat → Bool) (h : Nat) : Nat := if h < 255 ∧ s (h + 1) = true then top s (h + 1) else h
termination_by 255 - h
theorem top_yes (s : Nat → Bool) (h : Nat) (h1 : h < 255) (h2 : s (h + 1) = true) : top s h = top s (h + 1) := by
  rw [top.eq_def, if_pos ⟨h1, h2⟩]
theorem top_no (s : Nat → Bool) (h : Nat) (h1 : ¬ (h < 255 ∧ s (h + 1) = true)) : top s h = h := by
  rw [top.eq_def, if_neg h1]
theorem top_ge (s : Nat → Bool) (h : Nat) : h ≤ top s h := by
  induction hn : 255 - h generalizing h with
  | zero => rw [top_no s h (by omega)]; exact Nat.le_refl _
  | succ n ih =>
    by_cases hc : h < 255 ∧ s (h + 1) = true
    · rw [top_yes s h hc.1 hc.2]
      exact Nat.le_trans (Nat.le_succ _) (ih (h + 1) (by omega))
    · rw [top_no s h hc]; exact Nat.le_refl _
theorem top_le (s : Nat → Bool) (h : Nat) (hh : h ≤ 255) : top s h ≤ 255 := by
  induction hn : 255 - h generalizing h with
  | zero => rw [top_no s h (by omega)]; exact hh
  | succ n ih =>
    by_cases hc : h < 255 ∧ s (h + 1) = true
    · rw [top_yes s h hc.1 hc.2]
      exact ih (h + 1) (by omega) (by omega)
    · rw [top_no s h hc]; exact hh
/-- a run's notation -/
def piece (lo hi : Nat) : List Nat := ltr lo ++ (if lo + 1 < hi then [45] else []) ++ (if lo < hi then ltr hi else [])
/-- the notation of the letters from k on -/
def fmt (s : Nat → Bool) (k : Nat) : List Nat :=
  if h : k < 256 then (if s k then piece k (top s k) ++ fmt s (top s k + 1) else fmt s (k + 1)) else []
termination_by 256 - k
decreasing_by
  all_goals first | (have := top_ge s k; omega) | omega
theorem fmt_end (s : Nat → Bool) (k : Nat) (h : 256 ≤ k) : fmt s k = [] := by
  rw [fmt.eq_def, dif_neg (by omega)]
theorem fmt_no (s : Nat → Bool) (k : Nat) (h : k < 256) (hs : s k = false) : fmt s k = fmt s (k + 1) := by
  rw [fmt.eq_def, dif_pos h, if_neg (by simp [hs])]
theorem fmt_yes (s : Nat → Bool) (k : Nat) (h : k < 256) (hs : s k = true) : fmt s k = piece k (top s k) ++ fmt s (top s k + 1) := by
  rw [fmt.eq_def, dif_pos h, if_pos hs]
theorem ltr_len (b : Nat) : (ltr b).length ≤ 4 := by
  unfold ltr
  repeat' split
  all_goals simp
theorem hexd_lt (k : Nat) (h : k < 16) : hexd k < 256 := by unfold hexd; split <;> omega
theorem ltr_lt (b : Nat) (hb : b < 256) : ∀ x ∈ ltr b, x < 256 := by
  have h1 := hexd_lt (b / 16) (by omega)
  have h2 := hexd_lt (b % 16) (by omega)
  unfold ltr
  repeat' split
  all_goals (intro x hx; simp at hx; omega)
theorem piece_lt (lo hi : Nat) (h1 : lo < 256) (h2 : hi < 256) : ∀ x ∈ piece lo hi, x < 256 := by
  intro x hx
  unfold piece at hx
  simp only [List.mem_append] at hx
  rcases hx with (hx | hx) | hx
  · exact ltr_lt lo h1 x hx
  · split at hx <;> simp at hx; omega
  · split at hx
    · exact ltr_lt hi h2 x hx
    · simp at hx
theorem piece_len (lo hi : Nat) : (piece lo hi).length ≤ 9 := by
  unfold piece
  have h1 := ltr_len lo
  have h2 := ltr_len hi
  simp only [List.length_append]
  split <;> split <;> simp <;> omega
theorem fmt_lt (s : Nat → Bool) (k : Nat) : ∀ x ∈ fmt s k, x < 256 := by
  induction hn : 256 - k using Nat.strongRecOn generalizing k with
  | _ n ih =>
    by_cases hk : k < 256
    · cases hs : s k with
      | false => rw [fmt_no s k hk hs]; exact ih (256 - (k + 1)) (by omega) (k + 1) rfl
      | true =>
        rw [fmt_yes s k hk hs]
        intro x hx
        have h1 := top_ge s k
        have h2 := top_le s k (by omega)
        rcases List.mem_append.1 hx with h | h
        · exact piece_lt k (top s k) hk (by omega) x h
        · exact ih (256 - (top s k + 1)) (by omega) (top s k + 1) rfl x h
    · rw [fmt_end s k (by omega)]; intro x hx; cases hx
/-- two sets with the same letters have the same notation -/
theorem fmt_congr {s t : Nat → Bool} (h : ∀ i, i < 256 → s i = t i) (k : Nat) : fmt s k = fmt t k := by
  have ht : ∀ k, k < 256 → top s k = top t k := by
    intro k
    induction hn : 255 - k generalizing k with
    | zero => intro hk; rw [top_no s k (by omega), top_no t k (by omega)]
    | succ n ih =>
      intro hk
      by_cases hc : k < 255 ∧ s (k + 1) = true
      · rw [top_yes s k hc.1 hc.2, top_yes t k hc.1 (by rw [← h _ (by omega)]; exact hc.2)]
        exact ih (k + 1) (by omega) (by omega)
      · rw [top_no s k hc, top_no t k (fun hx => hc ⟨hx.1, by rw [h _ (by omega)]; exact hx.2⟩)]
  induction hn : 256 - k using Nat.strongRecOn generalizing k with
  | _ n ih =>
    by_cases hk : k < 256
    · cases hs : s k with
      | false => rw [fmt_no s k hk hs, fmt_no t k hk (by rw [← h k hk]; exact hs)]; exact ih (256 - (k + 1)) (by omega) (k + 1) rfl
      | true =>
        rw [fmt_yes s k hk hs, fmt_yes t k hk (by rw [← h k hk]; exact hs), ht k hk]
        have h1 := top_ge s k
        rw [ht k hk] at h1
        rw [ih (256 - (top t k + 1)) (by omega) (top t k + 1) rfl]
    · rw [fmt_end s k (by omega), fmt_end t k (by omega)]
end Go.Proofs.Ytaagfmpolcpimaa
