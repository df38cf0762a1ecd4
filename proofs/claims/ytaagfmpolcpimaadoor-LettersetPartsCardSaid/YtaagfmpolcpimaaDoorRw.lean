/-
  Rows of the call's own whose elements are whole arrays: one more behind, read at an index; a slice literal of one array. No condition beyond what each states.
-/
import Derived.Test.YtaagfmpolcpimaaDoorAk
import Derived.Test.YtaagfmpolcpimaaDoorEq
import Derived.Laws.AppendOwn
import Derived.Laws.OwnMore
import Derived.OwnWalk
import Derived.Great.BuildSlice
namespace Go.Proofs.YtaagfmpolcpimaaDoor
open Go.RowKit
set_option linter.unusedSimpArgs false
set_option linter.unusedVariables false
set_option maxRecDepth 100000

theorem fold_set (l : List Value) : ∀ (k : Nat) (acc : Array Value), acc.size = k + l.length → (l.zipIdx k).foldl (fun cs x => cs.setIfInBounds x.2 x.1) acc = (acc.toList.take k ++ l).toArray := by
  induction l with
  | nil =>
    intro k acc h
    simp only [List.zipIdx_nil, List.foldl_nil, List.append_nil]
    rw [List.take_of_length_le (by simp at h ⊢; omega)]
  | cons v r ih =>
    intro k acc h
    simp only [List.zipIdx_cons, List.foldl_cons]
    rw [ih (k + 1) _ (by simp at h ⊢; omega)]
    congr 1
    have hk : k < acc.toList.length := by simp at h ⊢; omega
    rw [Array.toList_setIfInBounds, List.take_set, List.take_succ_eq_append_getElem hk, List.set_append_right _ _ (by simp; omega)]
    simp [Nat.min_eq_left (Nat.le_of_lt (by simpa using hk))]
section
variable {P : Program}
theorem run_slice_one (w : World) (t e : TypeId) (cs : Array Value) (hu : P.underlying t = some (.slice e)) (hi : (P.info? e).map (·.size) = some cs.size) (hz : ((P.info? e).bind (·.zero)).isSome = true) (hpos : 0 < cs.size) (hsmall : cs.size ≤ 16777216) :
    (Instr.buildSlice t 1 #[(0, .agg cs)]).run P w = .ok (.slice (some ⟨w.heap.size, 0, none⟩) 1 1) (w.alloc (.cells cs e)) := by
  cases hie : P.info? e with
  | none => simp [hie] at hi
  | some ie =>
    simp only [hie, Option.map_some, Option.some.injEq, Option.bind_some] at hi hz
    obtain ⟨z, hzz⟩ := Option.isSome_iff_exists.1 hz
    refine run_buildSlice w t e 1 _ cs ie z hu hie hzz (by omega) (by omega) ?_
    have hc : (Value.agg cs).cells = cs := rfl
    simp only [Instr.fill, Nat.zero_mul, Nat.one_mul, hc, hi]
    have hsz : ((Array.range cs.size).map (z.cells[· % z.cells.size]!)).size = cs.size := by simp
    generalize (Array.range cs.size).map (z.cells[· % z.cells.size]!) = A at hsz ⊢
    rw [if_neg (by simp [hsz])]
    congr 1
    have h := fold_set cs.toList 0 A (by simp [hsz])
    simp only [List.take_zero, List.nil_append, Array.toArray_toList] at h
    refine Eq.trans ?_ h
    rw [← Array.foldl_toList]
    simp
theorem wpList_slice_one {ops : Array Oper} {rest : List Oper} {o : Oper} {a : Act} {w : World} {Q : Exit → Act → World → Prop} (hg : o.guard = none) (t e : TypeId) (x : Operand) (ho : o.op = .buildSlice t 1 #[(0, x)]) (cs : Array Value) (hx : a.eval x = .agg cs)
    (hu : P.underlying t = some (.slice e)) (hi : (P.info? e).map (·.size) = some cs.size) (hz : ((P.info? e).bind (·.zero)).isSome = true) (hpos : 0 < cs.size) (hsmall : cs.size ≤ 16777216)
    (h : wpList P ops Q rest (a.put o.dst (.slice (some ⟨w.heap.size, 0, none⟩) 1 1)) (w.alloc (.cells cs e))) : wpList P ops Q (o :: rest) a w :=
  wpList_plain hg fun _ hK => by
    unfold Oper.wp execOp
    simp only [ho, List.map_toArray, List.map_cons, List.map_nil, hx, Sem.run_bind, run_slice_one w t e cs hu hi hz hpos hsmall, Result.andThen_ok, Sem.run_pure]
    exact hK _ _ h
end

/-- the elements' cells, one behind the other -/
def flatG {α : Type} (enc : α → List Value) (L : List α) : List Value := L.flatMap enc
theorem flatG_snoc {α : Type} (enc : α → List Value) (L : List α) (x : α) : flatG enc (L ++ [x]) = flatG enc L ++ enc x := by simp [flatG]
theorem flatG_get {α : Type} (enc : α → List Value) (k : Nat) (hk : ∀ x, (enc x).length = k) : ∀ (L : List α) (i : Nat) (x : α), L[i]? = some x → ∀ j, j < k → (flatG enc L)[i * k + j]? = (enc x)[j]?
  | [], i, x, h, _, _ => by simp at h
  | y :: L, 0, x, h, j, hj => by
    simp at h; subst h
    simp only [flatG, List.flatMap_cons, Nat.zero_mul, Nat.zero_add]
    rw [List.getElem?_append_left (by rw [hk]; exact hj)]
  | y :: L, i + 1, x, h, j, hj => by
    have ih := flatG_get enc k hk L i x (by simpa using h) j hj
    simp only [flatG, List.flatMap_cons] at ih ⊢
    rw [List.getElem?_append_right (by rw [hk, Nat.add_mul]; omega), hk]
    rw [show (i + 1) * k + j - k = i * k + j by rw [Nat.add_mul]; omega]
    exact ih
theorem flatG_len {α : Type} (enc : α → List Value) (k : Nat) (hk : ∀ x, (enc x).length = k) (L : List α) : (flatG enc L).length = L.length * k := by
  induction L with
  | nil => simp [flatG]
  | cons y L ih =>
    simp only [flatG, List.flatMap_cons, List.length_append, hk, List.length_cons] at ih ⊢
    rw [ih, Nat.add_mul]; omega

/-! ### rows of 256 truth values -/
def encB (m : Nat → Bool) : List Value := (BV m).toList
theorem encB_len (m : Nat → Bool) : (encB m).length = 256 := by simp [encB, BV_size]
theorem encB_one (m : Nat → Bool) : ∀ v ∈ encB m, v.oneCell' = true := fun v hv => Array.all_eq_true_iff_forall_mem.1 (BV_one m) v (by simpa [encB] using hv)
abbrev ownsB (w : World) (B : Nat) (v : Value) (M : List (Nat → Bool)) : Prop := w.ownsRow B 28 256 v M.length (flatG encB M)
theorem info28 : (Tryd.prog.info? 28).map (fun i => (i.zero, i.size, i.bytes)) = some (some (.agg (BV fun _ => false)), 256, 256) := by unfold BV; kernel_rfl
theorem ownsB_grew {w w' : World} {B : Nat} {v : Value} {M : List (Nat → Bool)} (h : ownsB w B v M) (hg : Below w.heap.size w w') : ownsB w' B v M :=
  h.kept (row := none) ⟨hg.os, hg.tape, hg.output, hg.size, fun k hk _ => hg.block k hk⟩ (by cases v.ownBlock <;> simp)
theorem RdB_own {w : World} {B : Nat} {v : Value} {M : List (Nat → Bool)} (h : ownsB w B v M) : RdB w v M := by
  have hh := h
  obtain ⟨hl, (⟨rfl, hn⟩ | ⟨g, cap, cur, rfl, hb, hc, hx⟩)⟩ := h
  · exact .inl ⟨List.eq_nil_of_length_eq_zero hn, none, 0, rfl⟩
  · refine .inr ⟨g, cap, rfl, lt_of_block hc, fun i m hi c hcc => ?_⟩
    have hi' := (List.getElem?_eq_some_iff.1 hi).1
    rw [hh.cellAt (i * 256 + c) (by have := Nat.mul_le_mul_right 256 (show i + 1 ≤ M.length from hi'); omega), flatG_get encB 256 encB_len M i m hi c hcc, encB, Array.getElem?_toList, BV_get _ _ hcc]
theorem RdB_below {w w' : World} {v : Value} {M : List (Nat → Bool)} (h : RdB w v M) (hb : Below w.heap.size w w') : RdB w' v M := by
  rcases h with h | ⟨g, cap, rfl, hg, hc⟩
  · exact .inl h
  · exact .inr ⟨g, cap, rfl, by have := hb.size; omega, fun i m hi c hcc => (hb.cell (p := ⟨g, i * 256 + c, none⟩) hg).trans (hc i m hi c hcc)⟩
end Go.Proofs.YtaagfmpolcpimaaDoor
