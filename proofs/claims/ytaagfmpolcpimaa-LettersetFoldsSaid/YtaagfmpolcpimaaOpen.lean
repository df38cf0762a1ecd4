/-
  The arguments' readings: a set of letters by value. No condition.
-/
import Derived.Test.YtaagfmpolcpimaaPure
import Derived.ProofKit
import Derived.OpenShut
import Derived.ShutString
import Derived.ChangeOld
namespace Go.Proofs.Ytaagfmpolcpimaa
open Go.ChangeShapes Go.WideShapes Go.ChangeAt Go.RowKit
open Go.ChangeMaps (open_string shut_string)
set_option linter.unusedVariables false

theorem own : ownKnob Try.prog.godebug = none := by kernel_rfl
theorem laidOut : laidOutB Try.prog = true := by kernel_rfl

theorem u64_nat {x : Int} (h : (Lit.int .u64 x).wf = true) : ∃ n : Nat, x = (n : Int) ∧ n < 18446744073709551616 := by
  simp [Lit.wf, IntKind.min, IntKind.max, IntKind.signed, IntKind.bits] at h
  exact ⟨x.toNat, by omega, by omega⟩
theorem u8_nat {x : Int} (h : (Lit.int .u8 x).wf = true) : ∃ n : Nat, x = (n : Int) ∧ n < 256 := by
  simp [Lit.wf, IntKind.min, IntKind.max, IntKind.signed, IntKind.bits] at h
  exact ⟨x.toNat, by omega, by omega⟩

section
variable {H : Type} {enc : TypeId × Value → H} {w : World} {base : Nat} {spare : Nat → Bool} {held : Bool}
theorem open_letters {v : Value} {d : DataW H} {p : List MemPlace} (h : DataW.Trod enc Try.prog w base spare held 24 v d p) : ∃ s : Nat → Nat, W64 s ∧ v = .agg (AV s) := by
  obtain ⟨fuel, hf⟩ := h
  obtain ⟨xs, m, _, _, hl, hx, hi⟩ := DataW.trod_array Try.underlying24 hf
  have hc : Try.prog.cellsOf 24 = 4 := by kernel_rfl
  have hc2 : Try.prog.cellsOf 22 = 1 := by kernel_rfl
  rw [hc] at hl
  rw [hc2] at hi
  have hv : ∃ cs, v = .agg cs := by
    cases v <;> first | exact ⟨_, rfl⟩ | (simp [Value.cells] at hl)
  obtain ⟨cs, rfl⟩ := hv
  simp only [Value.cells] at hl hi
  have one : ∀ i, i < 4 → ∃ n : Nat, n < 18446744073709551616 ∧ cs[i]? = some (.int .u64 n) := fun i hi4 => by
    have h1 := hi i hi4
    have hlt : i < cs.size := by simp at hl; omega
    have hs : (cs.toList.drop (i * 1)).take 1 = [cs[i]] := by
      rw [Nat.mul_one, List.drop_eq_getElem_cons (by simpa using hlt)]; simp
    rw [hs] at h1
    obtain ⟨y, hy⟩ : ∃ y, xs[i]? = some y := ⟨xs[i]'(by omega), List.getElem?_eq_getElem _⟩
    rw [hy] at h1
    obtain ⟨x, e, _, wx⟩ := DataW.trod_int Try.underlying22 h1
    obtain ⟨n, rfl, hn⟩ := u64_nat wx
    simp at e
    exact ⟨n, hn, by rw [Array.getElem?_eq_getElem hlt, e]⟩
  obtain ⟨n0, b0, e0⟩ := one 0 (by omega)
  obtain ⟨n1, b1, e1⟩ := one 1 (by omega)
  obtain ⟨n2, b2, e2⟩ := one 2 (by omega)
  obtain ⟨n3, b3, e3⟩ := one 3 (by omega)
  refine ⟨fun k => match k with | 0 => n0 | 1 => n1 | 2 => n2 | 3 => n3 | _ => 0, fun k => ?_, congrArg Value.agg ?_⟩
  · match k with
    | 0 => exact b0
    | 1 => exact b1
    | 2 => exact b2
    | 3 => exact b3
    | _ + 4 => exact Nat.zero_lt_succ _
  · apply Array.ext_getElem?
    intro i
    by_cases hi4 : i < 4
    · rw [AV_get _ _ hi4]
      have : i = 0 ∨ i = 1 ∨ i = 2 ∨ i = 3 := by omega
      rcases this with rfl | rfl | rfl | rfl
      · exact e0
      · exact e1
      · exact e2
      · exact e3
    · rw [Array.getElem?_eq_none (by simp at hl; omega), Array.getElem?_eq_none (by rw [AV_size]; omega)]
end
end Go.Proofs.Ytaagfmpolcpimaa
