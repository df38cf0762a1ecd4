/-
  The notation of a set, read again, is the set; texts one behind the other are read one behind the other. Plain, no program in sight. Conditions: letters below 256.
-/
import Derived.Test.YtaagfmpolcpimaaElt
namespace Go.Proofs.Ytaagfmpolcpimaa
open Go.RowKit
set_option linter.unusedSimpArgs false
set_option linter.unusedVariables false

theorem esc_append {d : Nat} {t : List Nat} {a n : Nat} (M : List Nat) (h : esc d t = (a, n)) (hn : n ≠ 0) : esc d (t ++ M) = (a, n) := by
  unfold esc at h ⊢
  by_cases h1 : d = 110
  · simpa [h1] using h
  by_cases h2 : d = 116
  · simpa [h1, h2] using h
  by_cases h3 : d = 114
  · simpa [h1, h2, h3] using h
  by_cases h4 : d = 120
  · rw [if_neg h1, if_neg h2, if_neg h3, if_pos h4] at h ⊢
    match t, h with
    | x :: y :: t, h => exact h
    | [], h => simp at h; omega
    | [_], h => simp at h; omega
  · rw [if_neg h1, if_neg h2, if_neg h3, if_neg h4] at h ⊢
    exact h
theorem elt_append {l : List Nat} {a n : Nat} (M : List Nat) (h : elt l = (a, n)) (hn : n ≠ 0) : elt (l ++ M) = (a, n) := by
  match l, h with
  | [], h => simp [elt] at h; omega
  | [c], h =>
    simp only [elt, List.singleton_append] at h ⊢
    by_cases h1 : c = 93 ∨ c = 45
    · rw [if_pos h1] at h ⊢; exact h
    · rw [if_neg h1] at h ⊢
      by_cases h2 : c ≠ 92
      · rw [if_pos h2] at h ⊢; exact h
      · rw [if_neg h2] at h; simp at h; omega
  | c :: d :: t, h =>
    simp only [elt, List.cons_append] at h ⊢
    by_cases h1 : c = 93 ∨ c = 45
    · rw [if_pos h1] at h ⊢; exact h
    · rw [if_neg h1] at h ⊢
      by_cases h2 : c ≠ 92
      · rw [if_pos h2] at h ⊢; exact h
      · rw [if_neg h2] at h ⊢; exact esc_append M h hn
theorem esc_len {d : Nat} {t : List Nat} {a n : Nat} (h : esc d t = (a, n)) : n ≤ 2 + t.length := by
  unfold esc at h
  repeat' split at h
  all_goals (first | (simp at h; omega) | (simp at h; simp; omega))
theorem elt_len {l : List Nat} {a n : Nat} (h : elt l = (a, n)) : n ≤ l.length := by
  match l, h with
  | [], h => simp [elt] at h; omega
  | [c], h =>
    simp only [elt] at h
    repeat' split at h
    all_goals (simp at h; simp; omega)
  | c :: d :: t, h =>
    simp only [elt] at h
    by_cases h1 : c = 93 ∨ c = 45
    · rw [if_pos h1] at h; simp at h; omega
    · rw [if_neg h1] at h
      by_cases h2 : c ≠ 92
      · rw [if_pos h2] at h; simp at h; simp; omega
      · rw [if_neg h2] at h
        have := esc_len h
        simp; omega
theorem rng_append {l M : List Nat} {a b n : Nat} (h : rng l = some (a, b, n)) (hM : M.head? ≠ some 45) : rng (l ++ M) = some (a, b, n) ∧ n ≤ l.length := by
  obtain ⟨e1, e2, he⟩ : ∃ x y, elt l = (x, y) := ⟨_, _, rfl⟩
  have hne : e2 ≠ 0 := by intro h0; rw [rng_no (by rw [he]; exact h0)] at h; cases h
  have he' := elt_append M he hne
  have hlen := elt_len he
  by_cases h45 : l[e2]? = some 45
  · have hlt : e2 < l.length := (List.getElem?_eq_some_iff.1 h45).1
    obtain ⟨f1, f2, hf⟩ : ∃ x y, elt (l.drop (e2 + 1)) = (x, y) := ⟨_, _, rfl⟩
    by_cases hb : f2 = 0 ∨ f1 < e1
    · rw [rng_bad (by rw [he]; exact hne) (by rw [he]; exact h45) (by rw [he, hf]; exact hb)] at h; cases h
    · have h2 := rng_two (l := l) (by rw [he]; exact hne) (by rw [he]; exact h45) (by rw [he, hf]; exact hb)
      rw [h] at h2
      simp only [he, hf, Option.some.injEq, Prod.mk.injEq] at h2
      obtain ⟨rfl, rfl, rfl⟩ := h2
      have hd : (l ++ M).drop (e2 + 1) = l.drop (e2 + 1) ++ M := List.drop_append_of_le_length (by omega)
      have hf' := elt_append M hf (by omega)
      have h3 := rng_two (l := l ++ M) (by rw [he']; exact hne) (by rw [he']; rw [List.getElem?_append_left hlt]; exact h45) (by rw [he', hd, hf']; exact hb)
      rw [he', hd, hf'] at h3
      refine ⟨h3, ?_⟩
      have := elt_len hf
      rw [List.length_drop] at this
      omega
  · have h2 := rng_one (l := l) (by rw [he]; exact hne) (by rw [he]; exact h45)
    rw [h] at h2
    simp only [he, Option.some.injEq, Prod.mk.injEq] at h2
    obtain ⟨rfl, rfl, rfl⟩ := h2
    refine ⟨?_, hlen⟩
    have h3 := rng_one (l := l ++ M) (by rw [he']; exact hne) (by
      rw [he']
      by_cases hlt : n < l.length
      · rw [List.getElem?_append_left hlt]; exact h45
      · rw [List.getElem?_append_right (by omega), show n - l.length = 0 by omega]
        rw [← List.head?_eq_getElem?]; exact hM)
    rw [he'] at h3
    exact h3
theorem prs_append (M : List Nat) (hM : M.head? ≠ some 45) : ∀ (n : Nat) (l : List Nat) (s t : Nat → Nat), l.length ≤ n → prs l s = some t → prs (l ++ M) s = prs M t := by
  intro n
  induction n with
  | zero =>
    intro l s t hl h
    obtain rfl : l = [] := List.eq_nil_of_length_eq_zero (by omega)
    rw [prs_nil] at h; cases h; rfl
  | succ n ih =>
    intro l s t hl h
    by_cases he : l = []
    · subst he; rw [prs_nil] at h; cases h; rfl
    · cases hr : rng l with
      | none => rw [prs_none he hr] at h; cases h
      | some p =>
        obtain ⟨a, b, m⟩ := p
        rw [prs_some he hr] at h
        have hp := rng_pos hr
        have h1 := rng_append hr hM
        rw [prs_some (by simp [he]) h1.1, List.drop_append_of_le_length h1.2]
        exact ih _ _ _ (by simp; omega) h

/-! ### the notation -/
theorem hexv_hexd : ∀ k, k < 16 → hexv (hexd k) = k := by decide
theorem elt_ltr_all : ∀ b, b < 256 → elt (ltr b) = (b, (ltr b).length) ∧ (ltr b).head? ≠ some 45 ∧ (ltr b).length ≠ 0 := by decide +kernel
theorem elt_ltr (b : Nat) (hb : b < 256) (M : List Nat) : elt (ltr b ++ M) = (b, (ltr b).length) := elt_append M (elt_ltr_all b hb).1 (elt_ltr_all b hb).2.2
theorem head_ltr (b : Nat) (hb : b < 256) (M : List Nat) : (ltr b ++ M).head? ≠ some 45 := by
  have h := elt_ltr_all b hb
  cases hl : ltr b with
  | nil => rw [hl] at h; exact absurd rfl h.2.2
  | cons x t => rw [hl] at h; simpa using h.2.1
theorem ltr_ne (b : Nat) (hb : b < 256) (M : List Nat) : ltr b ++ M ≠ [] := by
  have h := (elt_ltr_all b hb).2.2
  intro e
  simp at e
  rw [e.1] at h
  exact h rfl
theorem prs_ltr (b : Nat) (hb : b < 256) (M : List Nat) (hM : M.head? ≠ some 45) (s : Nat → Nat) : prs (ltr b ++ M) s = prs M (orW s (btw b 1)) := by
  have he := elt_ltr b hb M
  have h := rng_one (l := ltr b ++ M) (by rw [he]; exact (elt_ltr_all b hb).2.2) (by rw [he]; simp only []; rw [List.getElem?_append_right (Nat.le_refl _), Nat.sub_self, ← List.head?_eq_getElem?]; exact hM)
  rw [he] at h
  rw [prs_some (ltr_ne b hb M) h, show b + 1 - b = 1 by omega]
  congr 1
  simp
theorem prs_range (a b : Nat) (ha : a < 256) (hb : b < 256) (hab : a ≤ b) (M : List Nat) (s : Nat → Nat) : prs (ltr a ++ [45] ++ ltr b ++ M) s = prs M (orW s (btw a (b + 1 - a))) := by
  have e0 : ltr a ++ [45] ++ ltr b ++ M = ltr a ++ (45 :: (ltr b ++ M)) := by simp
  have he := elt_ltr a ha (45 :: (ltr b ++ M))
  have hd : (ltr a ++ (45 :: (ltr b ++ M))).drop ((ltr a).length + 1) = ltr b ++ M := by
    rw [List.drop_append, List.drop_eq_nil_of_le (by omega)]
    simp
  have hf := elt_ltr b hb M
  have h := rng_two (l := ltr a ++ (45 :: (ltr b ++ M))) (by rw [he]; exact (elt_ltr_all a ha).2.2) (by rw [he]; simp) (by rw [he, hd, hf]; have := (elt_ltr_all b hb).2.2; simp only []; omega)
  rw [he, hd, hf] at h
  rw [e0, prs_some (ltr_ne a ha _) h]
  congr 1
  rw [← List.drop_drop, hd]
  simp
theorem top_run (s : Nat → Bool) : ∀ (n h : Nat), 255 - h = n → h ≤ 255 → s h = true → ∀ j, h ≤ j → j ≤ top s h → s j = true := by
  intro n
  induction n with
  | zero =>
    intro h hn hh hs j h1 h2
    rw [top_no s h (by omega)] at h2
    obtain rfl : j = h := by omega
    exact hs
  | succ n ih =>
    intro h hn hh hs j h1 h2
    by_cases hc : h < 255 ∧ s (h + 1) = true
    · rw [top_yes s h hc.1 hc.2] at h2
      by_cases hj : j = h
      · subst hj; exact hs
      · exact ih (h + 1) (by omega) (by omega) hc.2 j (by omega) h2
    · rw [top_no s h hc] at h2
      obtain rfl : j = h := by omega
      exact hs
theorem head_fmt (s : Nat → Bool) : ∀ (n k : Nat), 256 - k = n → (fmt s k).head? ≠ some 45 := by
  intro n
  induction n using Nat.strongRecOn with
  | _ n ih =>
    intro k hn
    by_cases hk : k < 256
    · cases hs : s k with
      | false => rw [fmt_no s k hk hs]; exact ih (256 - (k + 1)) (by omega) (k + 1) rfl
      | true =>
        rw [fmt_yes s k hk hs]
        unfold piece
        rw [List.append_assoc, List.append_assoc]
        exact head_ltr k hk _
    · rw [fmt_end s k (by omega)]; simp
theorem prs_piece (a b : Nat) (ha : a < 256) (hb : b < 256) (hab : a ≤ b) (M : List Nat) (hM : M.head? ≠ some 45) (s : Nat → Nat) :
    ∃ t, prs (piece a b ++ M) s = prs M t ∧ (W64 s → W64 t) ∧ ∀ c, bit t c = (bit s c || decide (a ≤ c ∧ c ≤ b)) := by
  by_cases h0 : b = a
  · subst h0
    have e : piece b b = ltr b := by simp [piece]
    refine ⟨_, by rw [e]; exact prs_ltr b hb M hM s, fun h => orW_W64 h (btw_W64 _ _), fun c => ?_⟩
    rw [bit_orW, bit_btw]; congr 1; rw [Bool.eq_iff_iff]; simp; omega
  by_cases h1 : b = a + 1
  · subst h1
    have e : piece a (a + 1) = ltr a ++ ltr (a + 1) := by simp [piece]
    refine ⟨_, by rw [e, List.append_assoc, prs_ltr a ha _ (head_ltr _ hb _), prs_ltr (a + 1) hb M hM], fun h => orW_W64 (orW_W64 h (btw_W64 _ _)) (btw_W64 _ _), fun c => ?_⟩
    rw [bit_orW, bit_orW, bit_btw, bit_btw, Bool.or_assoc]; congr 1; rw [Bool.eq_iff_iff]; simp; omega
  · have e : piece a b = ltr a ++ [45] ++ ltr b := by simp [piece, show a + 1 < b by omega, show a < b by omega]
    refine ⟨_, by rw [e]; exact prs_range a b ha hb hab M s, fun h => orW_W64 h (btw_W64 _ _), fun c => ?_⟩
    rw [bit_orW, bit_btw]; congr 1; rw [Bool.eq_iff_iff]; simp; omega
theorem prs_fmt (s : Nat → Bool) : ∀ (n k : Nat), 256 - k = n → ∀ acc : Nat → Nat, ∃ t, prs (fmt s k) acc = some t ∧ (W64 acc → W64 t) ∧ ∀ c, c < 256 → bit t c = (bit acc c || (decide (k ≤ c) && s c)) := by
  intro n
  induction n using Nat.strongRecOn with
  | _ n ih =>
    intro k hn acc
    by_cases hk : k < 256
    · cases hs : s k with
      | false =>
        rw [fmt_no s k hk hs]
        obtain ⟨t, h1, h2, h3⟩ := ih (256 - (k + 1)) (by omega) (k + 1) rfl acc
        refine ⟨t, h1, h2, fun c hc => ?_⟩
        rw [h3 c hc]
        congr 1
        by_cases hck : c = k
        · subst hck; simp [hs]
        · have : (k + 1 ≤ c) ↔ (k ≤ c) := by omega
          simp only [this]
      | true =>
        have hge := top_ge s k
        have hle := top_le s k (by omega)
        have hrun := top_run s _ k rfl (by omega) hs
        rw [fmt_yes s k hk hs]
        obtain ⟨t1, a1, a2, a3⟩ := prs_piece k (top s k) hk (by omega) hge (fmt s (top s k + 1)) (head_fmt s _ _ rfl) acc
        obtain ⟨t, h1, h2, h3⟩ := ih (256 - (top s k + 1)) (by omega) (top s k + 1) rfl t1
        refine ⟨t, by rw [a1, h1], fun h => h2 (a2 h), fun c hc => ?_⟩
        rw [h3 c hc, a3, Bool.or_assoc]
        congr 1
        by_cases hc1 : k ≤ c ∧ c ≤ top s k
        · simp [hc1, hrun c hc1.1 hc1.2]
        · have : (top s k + 1 ≤ c) ↔ (k ≤ c) := by omega
          simp only [this, hc1, decide_false, Bool.false_or]
    · rw [fmt_end s k (by omega)]
      refine ⟨acc, prs_nil _, id, fun c hc => ?_⟩
      have : ¬ k ≤ c := by omega
      simp [this]
/-- a set's notation is read as the set -/
theorem prs_back {s : Nat → Nat} (hs : W64 s) : ∃ t, prs (fmt (bit s) 0) (fun _ => 0) = some t ∧ eqS t s = true := by
  obtain ⟨t, h1, h2, h3⟩ := prs_fmt (bit s) _ 0 rfl (fun _ => 0)
  refine ⟨t, h1, (eqS_iff (h2 W64_zero) hs).2 fun b hb => ?_⟩
  rw [h3 b hb, bit_zero]; simp
/-- a text and a set's notation behind it -/
theorem prs_both {s u : Nat → Nat} {L : List Nat} (hs : W64 s) (hu : W64 u) (h : prs L (fun _ => 0) = some u) : ∃ v, prs (L ++ fmt (bit s) 0) (fun _ => 0) = some v ∧ W64 v ∧ eqS v (orW u s) = true := by
  obtain ⟨t, h1, h2, h3⟩ := prs_fmt (bit s) _ 0 rfl u
  refine ⟨t, by rw [prs_append _ (head_fmt _ _ _ rfl) _ L _ _ (Nat.le_refl _) h, h1], h2 hu, (eqS_iff (h2 hu) (orW_W64 hu hs)).2 fun b hb => ?_⟩
  rw [h3 b hb, bit_orW]; simp
end Go.Proofs.Ytaagfmpolcpimaa
