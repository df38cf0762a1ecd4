/-
  Small general lemmas on walks: a whole array by value that lies alone in a block (made, loaded, stored), for any program. No condition beyond what each states.
-/
import Derived.Test.YtaagfmpolcpimaaDoorRows
import Derived.WalkKit
import Derived.Lib.Hide
import Derived.Deep.Draws
import Derived.BigRegion
import Derived.BigQuiet
import Derived.Deep.RegionWith
import Derived.Lib.QuietBelow
namespace Go.Proofs.YtaagfmpolcpimaaDoor
open Go.RowKit

section
variable {P : Program} {ops : Array Oper} {rest : List Oper} {o : Oper} {a : Act} {w : World} {Q : Exit → Act → World → Prop}

/-- a variable of an array type is made, its zero value known -/
theorem wpList_alloc_row (hgd : o.guard = none) (ty : TypeId) (ho : o.op = .alloc ty) (arr : Array Value)
    (hz : ∀ w, (zeroValue ty).run P w = .ok (.agg arr) w)
    (h : wpList P ops Q rest (a.put o.dst (.pointer (some ⟨w.heap.size, 0, none⟩))) (w.alloc (.cells arr ty))) :
    wpList P ops Q (o :: rest) a w :=
  wpList_plain hgd fun _ hK => by
    unfold Oper.wp execOp
    simp only [ho, Instr.alloc, Sem.run_bind, hz, Result.andThen_ok, newVar, newRow, Value.cells, run_newObj_alloc, Sem.run_pure]
    exact hK _ _ h

/-- a whole array is stored over a block of its size -/
theorem wpList_store_row (hgd : o.guard = none) (ty : TypeId) (x y : Operand) (ho : o.op = .store ty x y)
    (g : Nat) (hx : a.eval x = .pointer (some ⟨g, 0, none⟩)) (cs : Array Value) (hy : a.eval y = .agg cs) (t : TypeId) (old : Array Value)
    (hg : w.heap[g]? = some (.cells old t)) (hi : (P.info? ty).map (·.size) = some cs.size) (hsz : old.size = cs.size) (h1 : cs.all (·.oneCell') = true)
    (h : wpList P ops Q rest (a.put o.dst undef) (w.setRow g cs)) : wpList P ops Q (o :: rest) a w :=
  wpList_plain hgd fun _ hK => by
    unfold Oper.wp execOp
    simp only [ho, hx, hy, Instr.storeAt, Instr.sureAddr, Sem.run_bind, Sem.run_pure, Result.andThen_ok, run_storeVar_row w g t ty old cs hg hi hsz h1]
    exact hK _ _ h

end

/-- a whole array loaded under a guard that says yes -/
theorem wpList_load_row_g {P : Program} {ops : Array Oper} {rest : List Oper} {o : Oper} {a : Act} {w : World} {Q : Exit → Act → World → Prop} (hgd : Region.wanted o (yielded ops a.tmps) = true) (ty : TypeId) (x : Operand) (ho : o.op = .load ty x)
    (g : Nat) (hx : a.eval x = .pointer (some ⟨g, 0, none⟩)) (t : TypeId) (cs : Array Value) (fr : Nat × Nat) (d : TypeDesc) (hg : w.heap[g]? = some (.cells cs t fr))
    (hu : P.underlying ty = some d) (hd : (match d with | .struct _ | .array _ _ => true | _ => false) = true) (hi : (P.info? ty).map (·.size) = some cs.size)
    (h : wpList P ops Q rest (a.put o.dst (.agg cs)) w) : wpList P ops Q (o :: rest) a w :=
  wpList_step fun _ hK => by rw [if_pos hgd]; exact wp_load_row ty x ho g hx t cs fr d hg hu hd hi (hK _ _ h)
/-- a whole array loaded in a quiet walk -/
theorem wpQuiet_load_row {P : Program} {ops : Array Oper} {rest : List Oper} {o : Oper} {a : Act} {C : World → Prop} {Q : Act → Prop} (hgd : Region.wanted o (yielded ops a.tmps) = true) (ty : TypeId) (x : Operand) (ho : o.op = .load ty x)
    (g : Nat) (hx : a.eval x = .pointer (some ⟨g, 0, none⟩)) (t : TypeId) (cs : Array Value) (fr : Nat × Nat) (d : TypeDesc) (hg : ∀ w, C w → w.heap[g]? = some (.cells cs t fr))
    (hu : P.underlying ty = some d) (hd : (match d with | .struct _ | .array _ _ => true | _ => false) = true) (hi : (P.info? ty).map (·.size) = some cs.size)
    (h : wpQuiet P ops C Q rest (a.put o.dst (.agg cs))) : wpQuiet P ops C Q (o :: rest) a :=
  wpQuiet_step fun K hK => by
    rw [if_pos hgd]
    refine ⟨.agg cs, fun w hw => ?_, hK _ h⟩
    unfold Oper.quietAt execOp
    simp only [ho, hx, Instr.loadAt, Instr.sureAddr, Sem.run_bind, Sem.run_pure, Result.andThen_ok, run_loadVar_row w g t ty cs fr d (hg w hw) hu hd hi]
    exact ⟨rfl, rfl⟩
/-- what lies in a block stays there where blocks are laid behind -/
theorem block_below {B : Nat} {w w' : World} (h : Below B w w') {g : Nat} {o : Obj} (hB : g < B) (hg : w.heap[g]? = some o) : w'.heap[g]? = some o := (h.block g hB).trans hg
theorem block_below' {w w' : World} (h : Below w.heap.size w w') {g : Nat} {o : Obj} (hg : w.heap[g]? = some o) : w'.heap[g]? = some o := block_below h (lt_of_block hg) hg
/-- the row of a block that was just made, behind others -/
theorem heap1 (w : World) (o : Obj) : (w.alloc o).heap[w.heap.size]? = some o := heap_alloc_new w o
theorem heap_at (w : World) (o : Obj) (g : Nat) (hg : g = w.heap.size) : (w.alloc o).heap[g]? = some o := by subst hg; exact heap_alloc_new w o
theorem heap_past (w : World) (o : Obj) (g : Nat) (hg : g < w.heap.size) : (w.alloc o).heap[g]? = w.heap[g]? := _root_.Go.heap_alloc_old w o hg
theorem drewN_setCell (w : World) (n : Nat) (a : Addr) (v : Value) : (w.drewN n).setCell a v = (w.setCell a v).drewN n := rfl
theorem drewN_setRow (w : World) (n : Nat) (g : Nat) (v : Array Value) : (w.drewN n).setRow g v = (w.setRow g v).drewN n := rfl
theorem drewN_alloc (w : World) (n : Nat) (o : Obj) : (w.drewN n).alloc o = (w.alloc o).drewN n := rfl
theorem drewN_zero (w : World) : w.drewN 0 = w := rfl
theorem below_drewN {B : Nat} {a w : World} (h : Below B a w) (n : Nat) : Below B a (w.drewN n) := ⟨h.os, h.tape, h.output, h.size, h.block⟩
theorem setRow_alloc (w : World) (old cs : Array Value) (t : TypeId) (g : Nat) (hg : g = w.heap.size) : (w.alloc (.cells old t)).setRow g cs = w.alloc (.cells cs t) := by
  subst hg
  unfold World.setRow World.alloc
  congr 1
  apply Array.ext_getElem?
  intro k
  rw [Array.getElem?_modify]
  by_cases hk : w.heap.size = k
  · subst hk; simp
  · have hk' : k ≠ w.heap.size := fun e => hk e.symm
    simp [hk, hk', Array.getElem?_push]
theorem setRow_alloc_past (w : World) (o : Obj) (cs : Array Value) (g : Nat) (hg : g < w.heap.size) : (w.alloc o).setRow g cs = (w.setRow g cs).alloc o := by
  unfold World.setRow World.alloc
  congr 1
  apply Array.ext_getElem?
  intro k
  simp only [Array.getElem?_modify, Array.getElem?_push, Array.size_modify]
  by_cases hk : k = w.heap.size
  · simp [hk]
    omega
  · simp [hk]

/-! ### A region that draws its order: the first operations come up one after the other (each alone), the rest is quiet in a class of worlds -/
section
variable {P : Program} {ops : Array Oper} {md : Region.Mode}

/-- the first g operations from k on come up alone; from there on the order of the text serves -/
def seqQuietB (md : Region.Mode) (ops : Array Oper) : Nat → Nat → Array Bool → Bool
  | 0, k, listed => Region.lexFrom md ops (ops.size - k) k listed
  | g + 1, k, listed => decide (Region.ready md ops listed = [k]) && seqQuietB md ops g (k + 1) (listed.setIfInBounds k true)

/-- what is asked behind the first operations -/
def thenQuiet (P : Program) (ops : Array Oper) (rest : List Oper) (Q : Exit → Act → World → Prop) : Exit → Act → World → Prop
  | .normal, a, w => ∃ C : World → Prop, C w ∧ wpQuiet P ops C (fun a' => ∀ w', C w' → Q .normal a' w') rest a
  | e, a, w => Q e a w

theorem wpAny_seqQuiet {Q : Exit → Act → World → Prop} (hs : Region.noSelect ops = true) : ∀ (hd rest : List Oper) (k : Nat) (listed : Array Bool) (a : Act) (w : World),
    (∀ j, (hd ++ rest)[j]? = ops[k + j]?) → ops.size = k + (hd ++ rest).length → seqQuietB md ops hd.length k listed = true →
    wpList P ops (thenQuiet P ops rest Q) hd a w → wpAny P md ops Q (hd ++ rest).length listed a w
  | [], rest, k, listed, a, w, hl, hn, hB, h => by
    obtain ⟨C, hC, h⟩ := h
    have hk : ops.size - k = rest.length := by simp at hn; omega
    simp only [List.length_nil, seqQuietB, hk] at hB
    exact wpAny_of_quiet (Q := fun a' => ∀ w', C w' → Q .normal a' w') (fun a w hw h => h w hw) _ _ _ _ hC (wpAnyQ_lex hs rest k listed a (by simpa using hl) hB h)
  | o :: hd, rest, k, listed, a, w, hl, hn, hB, h => by
    have h0 : ops[k]? = some o := by simpa using (hl 0).symm
    simp only [List.length_cons, seqQuietB, Bool.and_eq_true, decide_eq_true_eq] at hB
    have hl' : ∀ j, (hd ++ rest)[j]? = ops[k + 1 + j]? := fun j => by have := hl (j + 1); simpa [Nat.add_assoc, Nat.add_comm 1 j] using this
    have ih := fun a' w' (h' : wpList P ops (thenQuiet P ops rest Q) hd a' w') => wpAny_seqQuiet (Q := Q) hs hd rest (k + 1) (listed.setIfInBounds k true) a' w' hl' (by simp at hn ⊢; omega) hB.2 h'
    refine ⟨fun h1 => (by rw [hB.1] at h1; cases h1), fun i hi => ?_⟩
    rw [hB.1] at hi
    obtain rfl : i = k := by simpa using hi
    unfold wpOp
    simp only [h0]
    unfold wpList at h
    by_cases hw : Region.wanted o (yielded ops a.tmps) = true
    · rw [if_pos hw] at h ⊢
      rcases h with h | ⟨h, hl2⟩
      · refine .inl ?_
        unfold Oper.wp at *
        generalize (execOp a.eval o).run P w = r at *
        unfold Oper.upon at *
        split at h <;> try (first | exact h | exact ih _ _ h)
        · exact h.mono fun e w'' he => by
            cases e with
            | returned v => exact ih _ _ he
            | panicked c => exact he
            | outgrown =>
              obtain ⟨a', w', hx⟩ := he
              exact ⟨a', w', hx⟩
        · exact h.mono fun v w'' he => ih _ _ he
      · obtain ⟨a', w', hx⟩ := hl2
        exact .inr ⟨h, ⟨a', w', hx⟩⟩
    · rw [if_neg hw] at h ⊢
      exact ih _ _ h

theorem wp_region_seqQuiet {id : Nat} {Q : Exit → Act → World → Prop} {a : Act} {w : World} {l : List Oper} (n : Nat) (hm : P.follows .mixedOrders = true)
    (hB : (Region.noSelect l.toArray && decide (n ≤ l.length) && seqQuietB .any l.toArray n 0 (Array.replicate l.toArray.size false)) = true)
    (h : wpList P l.toArray (thenQuiet P l.toArray (l.drop n) Q) (l.take n) a w.drew) : (Code.region id l.toArray true).wp P Q a w := by
  simp only [Bool.and_eq_true, decide_eq_true_eq] at hB
  obtain ⟨⟨hs, hn⟩, hB⟩ := hB
  refine wp_region_any hm ?_
  have := wpAny_seqQuiet (md := .any) (Q := Q) hs (l.take n) (l.drop n) 0 (Array.replicate l.toArray.size false) a w.drew (by simp) (by simp)
    (by rwa [List.length_take, Nat.min_eq_left hn]) h
  simpa using this
end
end Go.Proofs.YtaagfmpolcpimaaDoor
