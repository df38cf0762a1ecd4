/-
  LettersetAlgebra: the given statement. For every input the law returns true and leaves its arguments. No condition beyond the statement's own.
-/
import Derived.Test.YtaagfmpolcpimaaLalg
import Derived.Test.YtaagfmpolcpimaaOpen
namespace Go.Proofs.Ytaagfmpolcpimaa.lawAlgebra
open Go.ChangeShapes Go.WideShapes Go.ChangeAt Go.RowKit
open Go.ChangeMaps (open_string shut_string)
open Go.Proofs.Ytaagfmpolcpimaa
set_option linter.unusedVariables false

theorem open_letters3 {H : Type} {enc : TypeId × Value → H} {w : World} {base : Nat} {spare : Nat → Bool} {held : Bool} {v : Value} {d : DataW H} {p : List MemPlace} (h : DataW.Trod enc Try.prog w base spare held 45 v d p) :
    ∃ a b c : Nat → Nat, W64 a ∧ W64 b ∧ W64 c ∧ v = .agg (ABC a b c) := by
  obtain ⟨fuel, hf⟩ := h
  obtain ⟨xs, m, _, _, hl, hx, hi⟩ := DataW.trod_array Try.underlying45 hf
  have hc : Try.prog.cellsOf 45 = 12 := by kernel_rfl
  have hc2 : Try.prog.cellsOf 24 = 4 := by kernel_rfl
  rw [hc] at hl
  rw [hc2] at hi
  have one : ∀ i, i < 3 → ∃ s : Nat → Nat, W64 s ∧ (v.cells.toList.drop (i * 4)).take 4 = (AV s).toList := fun i hi3 => by
    obtain ⟨y, hy⟩ : ∃ y, xs[i]? = some y := ⟨xs[i]'(by omega), List.getElem?_eq_getElem _⟩
    have h1 := hi i hi3
    rw [hy] at h1
    exact letters_list h1
  obtain ⟨a, ha, ea⟩ := one 0 (by omega)
  obtain ⟨b, hb, eb⟩ := one 1 (by omega)
  obtain ⟨c, hc', ec⟩ := one 2 (by omega)
  have hv : ∃ cs, v = .agg cs := by
    cases v <;> first | exact ⟨_, rfl⟩ | (simp [Value.cells] at hl)
  obtain ⟨cs, rfl⟩ := hv
  simp only [Value.cells] at hl ea eb ec
  refine ⟨a, b, c, ha, hb, hc', congrArg Value.agg (Array.ext' ?_)⟩
  rw [abc_list, ← ea, ← eb, ← ec]
  rw [← List.take_append_drop 4 cs.toList]
  generalize hr : cs.toList = l at *
  have e1 : l.drop 4 = (l.drop 4).take 4 ++ (l.drop 4).drop 4 := (List.take_append_drop 4 _).symm
  have e2 : ((l.drop 4).drop 4) = (l.drop 8).take 4 := by
    rw [List.drop_drop, List.take_of_length_le (by simp; omega)]
  rw [e2] at e1
  simp [← e1]

set_option maxRecDepth 100000 in
theorem lifted (os : Os) (started : os.Started) (H : Type) (enc : TypeId × Value → H) :
    ReturnsInHanded {} Try.checked os 8 .any (Rows.lettersetAlgebraSpec.pre6 enc Try.prog Try.f8 Rows.lettersetAlgebraRow.domain false) (Rows.lettersetAlgebraSpec.post enc Try.prog Try.f8 false true false false) := by
  refine returnsInHanded_of_change (C := Try.checked) own started (by kernel_rfl) Try.func8
    (ChangeSpec.witness6 (enc := enc) (C := Try.checked) false ⟨#[], #[.agg #[.int .u64 0, .int .u64 0, .int .u64 0, .int .u64 0, .int .u64 0, .int .u64 0, .int .u64 0, .int .u64 0, .int .u64 0, .int .u64 0, .int .u64 0, .int .u64 0], .int .u8 0], []⟩ 8 (by kernel_rfl) (by kernel_rfl) (by kernel_rfl) (by kernel_rfl)) ?_
  intro W base args ds gs before hval0 hW hcnd _
  have hval : ∀ (j : Nat) t v, Try.f8.params[j]? = some t → args[j]? = some v → Value.okWide Try.prog W .any base t v := hval0
  have hW' := hW
  obtain ⟨p, q, hA0, hV, rfl, hfz, hnd⟩ := hW
  have hA : DataW.TrodAll enc Try.prog W 0 (fun _ => true) true Try.f8.params.toList args.toList ds p := hA0
  rw [Try.params8] at hA hval
  obtain ⟨v0, vs0, d0, ds0, p0, q0, hargs, rfl, rfl, h0, r0⟩ := trodAll_cons hA
  obtain ⟨v1, vs1, d1, ds1, p1, q1, rfl, rfl, rfl, h1, r1⟩ := trodAll_cons r0
  obtain ⟨rfl, rfl, rfl⟩ := trodAll_nil r1
  obtain rfl : args = #[v0, v1] := by cases args; simp_all
  obtain ⟨rfl, rfl⟩ := trodVars_none hV
  have k0 := h0
  have lt0 : ∀ x ∈ p0, x.block < W.heap.size := by obtain ⟨m, hm⟩ := k0; exact DataW.trod_lt m _ _ _ hm
  obtain ⟨a, b, c, ha, hb, hc, rfl⟩ := open_letters3 h0
  have k1 := h1
  have lt1 : ∀ x ∈ p1, x.block < W.heap.size := by obtain ⟨m, hm⟩ := k1; exact DataW.trod_lt m _ _ _ hm
  obtain ⟨x1, rfl, rfl, rfl, wx1⟩ := open_int Try.underlying5 (hval 1 5 v1 rfl rfl) h1
  obtain ⟨n1, rfl, hn1⟩ := u8_nat wx1
  clear hA0 hval0
  refine (algebra_walk a b c ha hb hc n1 hn1 W).mono fun e W' ⟨he, bel⟩ => ?_
  subst he
  exact ⟨_, rfl, _, _, _, [], _, [], hW', trodAll_mk1 (shut_bool Try.underlying4 _), (trodAll_cons_mk (Below.trod laidOut (by kernel_rfl) (of_decide_eq_true (by kernel_rfl)) k0 bel lt0) (trodAll_cons_mk (Below.trod laidOut (by kernel_rfl) (of_decide_eq_true (by kernel_rfl)) k1 bel lt1) trodAll_mk0)), rfl, bel.frame _, fun h => by cases h⟩

theorem over : Rows.lettersetAlgebraRow.holds Try.pinned (OpenSpec.ofChange Rows.lettersetAlgebraSpec) :=
  OpenClaim.holds_of_wide 8 Try.f8 rfl rfl rfl rfl rfl rfl rfl ⟨rfl, rfl, rfl, rfl, rfl⟩ rfl rfl rfl rfl rfl (by kernel_rfl) Try.func8 (by kernel_rfl)
    (of_decide_eq_true (by kernel_rfl)) (by unfold Func.isWrapper; first | (rw [if_pos (by decide +kernel)]; kernel_rfl) | (rw [if_neg (by decide +kernel)]; exact ⟨rfl, rfl⟩))
    (fun os started H enc _ => lifted os started H enc)

theorem proved : Rows.LettersetAlgebraSaid := over
#print axioms proved
end Go.Proofs.Ytaagfmpolcpimaa.lawAlgebra
