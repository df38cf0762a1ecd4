/-
  The arguments' readings: a set of letters by value. No condition.
-/
import Derived.Test.YtaagfmpolcpimaaDoorPure
import Derived.ProofKit
import Derived.OpenShut
import Derived.ShutString
import Derived.ChangeOld
namespace Go.Proofs.YtaagfmpolcpimaaDoor
open Go.ChangeShapes Go.WideShapes Go.ChangeAt Go.RowKit
open Go.ChangeMaps (open_string shut_string)
set_option linter.unusedVariables false

theorem own : ownKnob Tryd.prog.godebug = none := by kernel_rfl
theorem laidOut : laidOutB Tryd.prog = true := by kernel_rfl

theorem u64_nat {x : Int} (h : (Lit.int .u64 x).wf = true) : ∃ n : Nat, x = (n : Int) ∧ n < 18446744073709551616 := by
  simp [Lit.wf, IntKind.min, IntKind.max, IntKind.signed, IntKind.bits] at h
  exact ⟨x.toNat, by omega, by omega⟩
theorem u8_nat {x : Int} (h : (Lit.int .u8 x).wf = true) : ∃ n : Nat, x = (n : Int) ∧ n < 256 := by
  simp [Lit.wf, IntKind.min, IntKind.max, IntKind.signed, IntKind.bits] at h
  exact ⟨x.toNat, by omega, by omega⟩

section
variable {H : Type} {enc : TypeId × Value → H} {w : World} {base : Nat} {spare : Nat → Bool} {held : Bool}
theorem letters_list {fuel : Nat} {l : List Value} {x : DataW H × List MemPlace} (hf : DataW.trod enc Tryd.prog w base spare held fuel 26 l = some x) : ∃ s : Nat → Nat, W64 s ∧ l = (AV s).toList := by
  obtain ⟨xs, m, _, _, hl, hx, hi⟩ := DataW.trod_array Tryd.underlying26 hf
  have hc : Tryd.prog.cellsOf 26 = 4 := by kernel_rfl
  have hc2 : Tryd.prog.cellsOf 24 = 1 := by kernel_rfl
  rw [hc] at hl
  rw [hc2] at hi
  have one : ∀ i, i < 4 → ∃ n : Nat, n < 18446744073709551616 ∧ l[i]? = some (.int .u64 n) := fun i hi4 => by
    have h1 := hi i hi4
    have hlt : i < l.length := by omega
    have hs : (l.drop (i * 1)).take 1 = [l[i]] := by
      rw [Nat.mul_one, List.drop_eq_getElem_cons hlt]; rfl
    rw [hs] at h1
    obtain ⟨y, hy⟩ : ∃ y, xs[i]? = some y := ⟨xs[i]'(by omega), List.getElem?_eq_getElem _⟩
    rw [hy] at h1
    obtain ⟨x, e, _, wx⟩ := DataW.trod_int Tryd.underlying24 h1
    obtain ⟨n, rfl, hn⟩ := u64_nat wx
    simp at e
    exact ⟨n, hn, by rw [List.getElem?_eq_getElem hlt, e]⟩
  obtain ⟨n0, b0, e0⟩ := one 0 (by omega)
  obtain ⟨n1, b1, e1⟩ := one 1 (by omega)
  obtain ⟨n2, b2, e2⟩ := one 2 (by omega)
  obtain ⟨n3, b3, e3⟩ := one 3 (by omega)
  refine ⟨fun k => match k with | 0 => n0 | 1 => n1 | 2 => n2 | 3 => n3 | _ => 0, fun k => ?_, ?_⟩
  · match k with
    | 0 => exact b0
    | 1 => exact b1
    | 2 => exact b2
    | 3 => exact b3
    | _ + 4 => exact Nat.zero_lt_succ _
  · apply List.ext_getElem?
    intro i
    by_cases hi4 : i < 4
    · have hg := fun s => (Array.getElem?_toList (xs := AV s) (i := i)).trans (AV_get s i hi4)
      rw [hg]
      have : i = 0 ∨ i = 1 ∨ i = 2 ∨ i = 3 := by omega
      rcases this with rfl | rfl | rfl | rfl
      · exact e0
      · exact e1
      · exact e2
      · exact e3
    · rw [List.getElem?_eq_none (by omega), List.getElem?_eq_none (by simp [AV_size]; omega)]
theorem open_letters {v : Value} {d : DataW H} {p : List MemPlace} (h : DataW.Trod enc Tryd.prog w base spare held 26 v d p) : ∃ s : Nat → Nat, W64 s ∧ v = .agg (AV s) := by
  obtain ⟨fuel, hf⟩ := h
  obtain ⟨s, hs, hl⟩ := letters_list hf
  refine ⟨s, hs, ?_⟩
  have hv : ∃ cs, v = .agg cs := by
    have := congrArg List.length hl
    cases v <;> first | exact ⟨_, rfl⟩ | (simp [Value.cells, AV_size] at this)
  obtain ⟨cs, rfl⟩ := hv
  exact congrArg Value.agg (Array.ext' hl)

end
end Go.Proofs.YtaagfmpolcpimaaDoor
