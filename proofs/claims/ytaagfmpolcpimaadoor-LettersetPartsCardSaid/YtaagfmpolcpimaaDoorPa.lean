/-
  LettersetAtoms: the given row and its tied card: for every input the law returns true and leaves its argument; the library's table is tied to the program's text by the given tie. No condition beyond the statement's own.
-/
import Derived.Test.YtaagfmpolcpimaaDoorLa
import Derived.Test.YtaagfmpolcpimaaDoorOpen
import Derived.Test.YtaagfmpolcpimaaDoorCards
import Derived.Test.YtaagfmpolcpimaaDoorTie
import Derived.Deep.Slices
import Derived.LaidMore
import Derived.Stop.Joined
import Derived.SevenTiedAt
namespace Go.Proofs.YtaagfmpolcpimaaDoor
open Go.ChangeShapes Go.WideShapes Go.ChangeAt Go.RowKit Go.Deep
set_option linter.unusedVariables false
set_option maxRecDepth 100000

section
variable {H : Type} {enc : TypeId × Value → H} {w : World} {base : Nat} {spare : Nat → Bool} {held : Bool}
theorem open_sets {r : Reach} {b0 : Nat} {v : Value} {d : DataW H} {p : List MemPlace} (hv : Value.okWide Tryd.prog w r b0 22 v) (h : DataW.Trod enc Tryd.prog w base spare held 22 v d p) :
    ∃ (S : List LW) (a : Option Addr) (cap : Nat), v = .slice a S.length cap ∧ S.length ≤ 9223372036854775807 ∧ Rd4 w v S := by
  obtain ⟨a0, len0, cap0, rfl⟩ := okWide_slice Tryd.underlying22 hv
  obtain ⟨fuel, hf⟩ := h
  have hc4 : Tryd.prog.cellsOf 26 = 4 := by kernel_rfl
  rcases open_slice Tryd.underlying22 hf with ⟨hcs, _⟩ | ⟨a, len, cap, m, n, D, Pl, hcs, _, hl, hm, hmm, _, hx⟩
  · simp [Value.cells] at hcs
    obtain ⟨rfl, rfl, rfl⟩ := hcs
    exact ⟨[], none, 0, rfl, by simp, .inl ⟨rfl, none, 0, rfl⟩⟩
  · simp [Value.cells] at hcs
    obtain ⟨rfl, rfl, rfl⟩ := hcs
    have hml : len0 ≤ m := by rw [hmm]; split <;> omega
    rw [hc4] at hx
    by_cases h0 : len0 = 0
    · subst h0
      exact ⟨[], some a, cap0, rfl, by simp, .inl ⟨rfl, some a, cap0, rfl⟩⟩
    obtain ⟨b, o, spot⟩ := a
    have key : ∀ i, i < len0 → ∃ x : LW, w.cells? base ((⟨b, o, spot⟩ : Addr).add (i * 4)) 4 = some (enc4 x) := fun i hi => by
      obtain ⟨cs', h1, h2⟩ := hx i (by omega)
      obtain ⟨s, hs, rfl⟩ := letters_list h2
      exact ⟨⟨s, hs⟩, h1⟩
    obtain ⟨f, hf2⟩ := choose_lt (α := LW) key
    have hcell : ∀ i, i < len0 → ∀ j u, (enc4 (f i))[j]? = some u → w.cell? (((⟨b, o, spot⟩ : Addr).add (i * 4)).add j) = some u := fun i hi j u hj => by
      have hj4 : j < 4 := by have := (List.getElem?_eq_some_iff.1 hj).1; rwa [enc4_len] at this
      have := (World.cells?_some (hf2 i hi)).2.2 j hj4
      rw [this, hj]
    have hl4 : 0 < (enc4 (f 0)).length := by rw [enc4_len]; omega
    have hspot : spot = none := by
      have := World.cell?_spot (hcell 0 (by omega) 0 _ (List.getElem?_eq_getElem hl4))
      simpa [Addr.add] using this
    subst hspot
    have hadd : ∀ i j, ((⟨b, o, none⟩ : Addr).add (i * 4)).add j = ⟨b, o + i * 4 + j, none⟩ := fun i j => by rw [Addr.add_mid, Addr.add_mid]
    unfold maxLen at hm
    refine ⟨(List.range len0).map f, some ⟨b, o, none⟩, cap0, by simp, by simp; omega, .inr ⟨b, o, cap0, by simp, ?_, fun i x hi j u hj => ?_⟩⟩
    · have := block_lt_of_cell (hcell 0 (by omega) 0 _ (List.getElem?_eq_getElem hl4))
      rw [hadd] at this
      exact this
    · have hi' : i < len0 := by have := (List.getElem?_eq_some_iff.1 hi).1; simpa using this
      rw [List.getElem?_map, List.getElem?_range hi'] at hi
      simp at hi
      subst hi
      have := hcell i hi' j u hj
      rwa [hadd] at this
end

theorem gTab : Tryd.prog.globalNamed "math/bits.deBruijn64tab" = some 0 := by kernel_rfl
theorem tTab : (Tryd.prog.globals[0]?).map (·.type) = some 54 := by kernel_rfl
theorem tab_is {H : Type} : (Rows.laid_math_bits_deBruijn64tab : DataW H) = .agg (Lib.deBruijn64tab.map fun (n : Nat) => .lit (.int .u8 n)) := rfl
/-- what the listed table gives the walks -/
theorem tab_of {W : World} (h : laidMetH Tryd.prog [("math/bits.deBruijn64tab", Rows.laid_math_bits_deBruijn64tab)] W) : Tab W ∧ 0 < W.heap.size := by
  rw [MakeChecks.laidMetH_plain _ _ _ (by kernel_rfl)] at h
  obtain ⟨ps, ⟨g0, t0, cs0, f0, p0, q0, hg0, ht0, hv0, hd0, _, _⟩, _, _⟩ := h
  obtain rfl := Option.some.inj (gTab.symm.trans hg0)
  obtain rfl := Option.some.inj (tTab.symm.trans ht0)
  obtain ⟨xs, m1, hfu, hx1, hlen, hn3, hel⟩ := DataW.trod_array Tryd.underlying54 hd0
  have c5 : Tryd.prog.cellsOf 5 = 1 := by kernel_rfl
  have key : ∀ j, j < 64 → W.cell? ⟨0, j, none⟩ = some (.int .u8 (Lib.deBruijn64tab.getD j 0 : Nat)) := fun j hj => by
    have h0 := hel j hj
    rw [c5] at h0
    obtain ⟨y, hy⟩ : ∃ y, xs[j]? = some y := ⟨xs[j]'(by omega), List.getElem?_eq_getElem _⟩
    rw [hy] at h0
    obtain ⟨k, e1, e2, _⟩ := DataW.trod_int Tryd.underlying5 h0
    rw [tab_is] at hx1
    simp only [Prod.mk.injEq, DataW.agg.injEq] at hx1
    have e3 := congrArg (fun l : List (DataW Unit) => l[j]?) hx1.1
    simp only [List.getElem?_map, hy, Option.map_some] at e3
    have hl : j < Lib.deBruijn64tab.length := by have : Lib.deBruijn64tab.length = 64 := by decide
                                                 omega
    rw [List.getElem?_eq_getElem hl, Option.map_some] at e3
    have hk : k = (Lib.deBruijn64tab[j] : Nat) := by
      have := Option.some.inj e3
      rw [e2] at this
      simp at this
      exact this.symm
    have hcl := World.var?_cell hg0 hv0 j
    have e4 : cs0.toList[j]? = some (.int .u8 k) := by
      have := congrArg List.head? e1
      rw [Nat.mul_one, List.head?_take, if_neg (by omega), List.head?_drop] at this
      simpa using this
    rw [hcl, ← Array.getElem?_toList, e4, hk]
    simp [List.getD, hl]
  have h64 : Lib.deBruijn64tab.length = 64 := by decide
  exact ⟨fun j hj => key j (by omega), by have := block_lt_of_cell (key 0 (by omega)); exact this⟩
theorem door_met (os : Os) (args : Array Value) : laidMetH Tryd.prog [("math/bits.deBruijn64tab", Rows.laid_math_bits_deBruijn64tab)] ((World.doorLaid Tryd.prog 400 os).forCall (fun _ _ => 0) ⟨#[], args, []⟩).memory :=
  laidMetH_of_parts3 (fuel := 80) (laidMet_of_run' 80 (by kernel_rfl) (by kernel_rfl)) (by kernel_rfl) (by kernel_rfl)
end Go.Proofs.YtaagfmpolcpimaaDoor
