/-
  LettersetAll: the law's walk: it returns true and writes nothing that was there. Conditions: words of 64 bits.
-/
import Derived.Test.YtaagfmpolcpimaaWo
import Derived.Test.YtaagfmpolcpimaaEq
namespace Go.Proofs.Ytaagfmpolcpimaa
open Go.RowKit
attribute [local go_sem] OneStep growAt growUpon
set_option maxHeartbeats 4000000
set_option maxRecDepth 100000
set_option linter.unusedSimpArgs false
set_option linter.unusedVariables false

attribute [local go_sem] Oper.semAt_some
theorem all_c (s : Nat → Nat) (w : World) : Calls Try.prog 22 #[.agg (AV s)] w fun e w' => e = .returned (.func (.func 33) #[] #[.pointer (some ⟨w.heap.size, 0, none⟩)]) ∧ w' = w.alloc (.cells (AV s) 24) := by
  go_enter Try.func22, Try.ntmps22
  go_wp2
  go_ret
  exact ⟨rfl, rfl⟩

/-- the last letter that has come, -1 for none -/
def lastI (pre : List (Fin 256)) : Int := match pre.getLast? with | none => -1 | some x => ((x.val : Nat) : Int)
theorem lastI_snoc (pre : List (Fin 256)) (x : Fin 256) : lastI (pre ++ [x]) = ((x.val : Nat) : Int) := by simp [lastI]
theorem lastI_bd (pre : List (Fin 256)) : -1 ≤ lastI pre ∧ lastI pre ≤ 255 := by
  unfold lastI
  split
  · omega
  · rename_i x _; have := x.isLt; omega
/-- what the law's own variables hold between two rounds -/
structure Rnd (w0 : World) (s : Nat → Nat) (most : Int) (B B3 Bs : Nat) (last : Int) (k : Nat) (W : World) : Prop where
  h1 : W.heap[B + 1]? = some (.cells #[.int .i64 most] 3)
  h2 : ∃ r, W.heap[B + 1 + 1]? = some (.cells #[.bool r] 4)
  h3 : W.heap[B3]? = some (.cells (BV (bit s)) 29)
  h4 : W.heap[B3 + 1]? = some (.cells #[.int .i64 last] 3)
  h5 : W.heap[B3 + 1 + 1]? = some (.cells #[.int .i64 k] 3)
  hs : W.heap[Bs]? = some (.cells (AV s) 24)
  be : Below B w0 W
theorem Rnd.kept {w0 : World} {s : Nat → Nat} {most : Int} {B B3 Bs : Nat} {last : Int} {k : Nat} {W W' : World} {row : Option Nat} {N : Nat} (h : Rnd w0 s most B B3 Bs last k W) (h3 : B + 1 + 1 < B3) (h5 : B3 + 1 + 1 < Bs) (h6 : Bs < N)
    (hg : W.grownBy W' row) (hr : ∀ r, row = some r → N ≤ r) : Rnd w0 s most B B3 Bs last k W' := by
  have g : ∀ j o, j ≤ Bs → W.heap[j]? = some o → W'.heap[j]? = some o := fun j o hj ho => (hg.block j (Array.getElem?_eq_some_iff.1 ho).1 (fun e => by have := hr j e.symm; omega)).trans ho
  refine ⟨g _ _ (by omega) h.h1, ?_, g _ _ (by omega) h.h3, g _ _ (by omega) h.h4, g _ _ (by omega) h.h5, g _ _ (by omega) h.hs, h.be.grown hg (by have := lt_of_block h.hs; omega) (fun k e => by have := hr k e; omega)⟩
  obtain ⟨r, h2⟩ := h.h2
  exact ⟨r, g _ _ (by omega) h2⟩
theorem cell_one {W : World} {b : Nat} {v : Value} {t : TypeId} (h : W.heap[b]? = some (.cells #[v] t)) : W.cell? ⟨b, 0, none⟩ = some v := by rw [cell_of_row W _ _ _ _ _ h]; rfl
theorem heap_one {W : World} {b : Nat} {v : Value} {t : TypeId} (u : Value) (h : W.heap[b]? = some (.cells #[v] t)) : (W.setCell ⟨b, 0, none⟩ u).heap[b]? = some (.cells #[u] t) := heap_setCell_same _ _ _ _ _ _ h
theorem Rnd.step {w0 : World} {s : Nat → Nat} {most : Int} {B B3 Bs : Nat} {last : Int} {k : Nat} {W : World} (h : Rnd w0 s most B B3 Bs last k W) (h3 : B + 1 + 1 < B3) (h5 : B3 + 1 + 1 < Bs) (x : Int) :
    Rnd w0 s most B B3 Bs x (k + 1) ((W.setCell ⟨B3 + 1, 0, none⟩ (.int .i64 x)).setCell ⟨B3 + 1 + 1, 0, none⟩ (.int .i64 ((k : Int) + 1))) := by
  have g : ∀ j, j ≠ B3 + 1 → j ≠ B3 + 1 + 1 → ((W.setCell ⟨B3 + 1, 0, none⟩ (.int .i64 x)).setCell ⟨B3 + 1 + 1, 0, none⟩ (.int .i64 ((k : Int) + 1))).heap[j]? = W.heap[j]? := fun j h1 h2 =>
    (heap_setCell_other _ _ _ _ h2).trans (heap_setCell_other _ _ _ _ h1)
  refine ⟨(g _ (by omega) (by omega)).trans h.h1, ?_, (g _ (by omega) (by omega)).trans h.h3, ?_, ?_, (g _ (by omega) (by omega)).trans h.hs, (h.be.setCell (p := ⟨B3 + 1, 0, none⟩) (by simp; omega) _).setCell (p := ⟨B3 + 1 + 1, 0, none⟩) (by simp; omega) _⟩
  · obtain ⟨r, h2⟩ := h.h2
    exact ⟨r, (g _ (by omega) (by omega)).trans h2⟩
  · exact (heap_setCell_other _ _ _ _ (by simp)).trans (heap_one _ h.h4)
  · exact heap_one _ ((heap_setCell_other _ _ _ _ (by simp)).trans h.h5)
theorem keeps_two (W : World) (a b : Addr) (u v : Value) : KeepsOthers W ((W.setCell a u).setCell b v) := (KeepsOthers.setCell W a u).trans (KeepsOthers.setCell _ b v)
theorem Rnd.grew {w0 : World} {s : Nat → Nat} {most : Int} {B B3 Bs : Nat} {last : Int} {k : Nat} {W W' : World} (h : Rnd w0 s most B B3 Bs last k W) (hg : Below W.heap.size W W') : Rnd w0 s most B B3 Bs last k W' := by
  refine ⟨block_below' hg h.h1, ?_, block_below' hg h.h3, block_below' hg h.h4, block_below' hg h.h5, block_below' hg h.hs, h.be.trans (hg.mono (by have := lt_of_block h.h1; omega))⟩
  obtain ⟨r, h2⟩ := h.h2
  exact ⟨r, block_below' hg h2⟩
/-- the answer stored -/
theorem Rnd.done {w0 : World} {s : Nat → Nat} {most : Int} {B B3 Bs : Nat} {last : Int} {k : Nat} {W : World} {r : Bool} (h : Rnd w0 s most B B3 Bs last k W) (h2 : W.heap[B + 1 + 1]? = some (.cells #[.bool r] 4)) (h3 : B + 1 + 1 < B3) :
    (W.setCell ⟨B + 1 + 1, 0, none⟩ (.bool true)).heap[B + 1 + 1]? = some (.cells #[.bool true] 4) ∧ Below B w0 (W.setCell ⟨B + 1 + 1, 0, none⟩ (.bool true)) :=
  ⟨heap_one _ h2, h.be.setCell (p := ⟨B + 1 + 1, 0, none⟩) (by simp; omega) _⟩
theorem results_bool_cell {fn : Func} {p : Tmp} (h : fn.results = #[.cell p 4]) (tmps : Array Value) (w : World) (g : Nat) (b : Bool) (hp : tmps.getD p undef = .pointer (some ⟨g, 0, none⟩)) (hg : w.heap[g]? = some (.cells #[.bool b] 4)) :
    (results fn tmps).run Try.prog w = .ok (.bool b) w := by
  have hp' : tmps[p]?.getD undef = .pointer (some ⟨g, 0, none⟩) := by simpa using hp
  have hc := cell_one hg
  simp [results, h, hp', asAddr, go_sem, hc, Try.underlying4]
theorem all_end {w0 Wx : World} {B B3 D : Nat} {tmps : Array Value} (h3 : B + 1 + 1 < B3) (hD : B + 1 + 1 < D) (hB : B = w0.heap.size) (hN : Wx.heap[B + 1 + 1]? = some (.cells #[.bool true] 4) ∧ Below B w0 Wx) (hK : Wx.heap[D]? = some (.deferred (some [])))
    (ht : tmps.getD 4 undef = .pointer (some ⟨B + 1 + 1, 0, none⟩)) : LeavesInM Fence.wide 3 Try.prog Try.f7 tmps (fun e w' => e = .returned (.bool true) ∧ Below w0.heap.size w0 w') [{ target := .collected D, args := #[] }] .returning Wx := by
  refine ⟨by simp, .inl ⟨_, _, rfl, run_takeDeferred hK, ?_⟩⟩
  refine ⟨_, results_bool_cell rfl _ _ (B + 1 + 1) true ht ((World.putObj_heap_other (by omega)).trans hN.1), rfl, ?_⟩
  rw [← hB]
  exact hN.2.trans ((Below.refl B Wx).grown (grownBy_putObj' Wx D (.deferred none)) (by have := lt_of_block hN.1; omega) (fun k e => by cases e; omega))
theorem lastI_lst (s : Nat → Nat) (k : Nat) : lastI (lst s k) < (k : Int) := by
  induction k with
  | zero => show (-1 : Int) < _; omega
  | succ k ih =>
    by_cases h : k < 256 ∧ bit s k = true
    · rw [lst_yes h.1 h.2, lastI_snoc]; simp only []; omega
    · rw [lst, dif_neg h]; omega
theorem lst_good (s : Nat → Nat) (k : Nat) : ∀ q x, q ++ [x] <+: lst s k → lastI q < ((x.val : Nat) : Int) ∧ bit s x.val = true ∧ x.val < k := by
  induction k with
  | zero => intro q x h; have := h.length_le; simp [lst] at this
  | succ k ih =>
    intro q x h
    by_cases hk : k < 256 ∧ bit s k = true
    · rw [lst_yes hk.1 hk.2, List.prefix_concat_iff] at h
      rcases h with h | h
      · obtain ⟨rfl, h2⟩ := List.append_inj' h rfl
        cases h2
        exact ⟨lastI_lst s k, hk.2, by simp⟩
      · have := ih q x h
        exact ⟨this.1, this.2.1, by omega⟩
    · rw [lst, dif_neg hk] at h
      have := ih q x h
      exact ⟨this.1, this.2.1, by omega⟩
theorem lst_cnt (s : Nat → Nat) (k : Nat) (hk : k ≤ 256) : (lst s k).length = cnt (bit s) k := by
  induction k with
  | zero => rfl
  | succ k ih =>
    have ih := ih (by omega)
    cases hb : bit s k with
    | true => rw [lst_yes (by omega) hb]; simp [cnt, hb, ih]
    | false => rw [lst_no hb]; simp [cnt, hb, ih]
def AllI (w0 : World) (s : Nat → Nat) (most : Int) (B B3 Bs : Nat) (pre : List (Fin 256)) (W : World) : Prop :=
  Rnd w0 s most B B3 Bs (lastI pre) pre.length W ∧ (most ≤ 0 ∨ (pre.length : Int) < most)
def AllX (w0 : World) (s : Nat → Nat) (most : Int) (B B3 Bs : Nat) (c : Code) (pre : List (Fin 256)) (W : World) : Prop :=
  (c = .ret ∧ ∃ q x, pre = q ++ [x] ∧ (((x.val : Nat) : Int) ≤ lastI q ∨ bit s x.val = false)) ∨ (c = .exit 0 ∧ Rnd w0 s most B B3 Bs (lastI pre) pre.length W ∧ (pre.length : Int) = most ∧ 0 < most)
theorem allI_own {w0 : World} {s : Nat → Nat} {most : Int} {B B3 Bs N : Nat} (h3 : B + 1 + 1 < B3) (h5 : B3 + 1 + 1 < Bs) (h6 : Bs < N) : OwnFrom N (AllI w0 s most B B3 Bs) :=
  fun _ _ _ _ hs hg hr => ⟨hs.1.kept h3 h5 h6 hg (fun r e => (hr r e).1), hs.2⟩
theorem allX_own {w0 : World} {s : Nat → Nat} {most : Int} {B B3 Bs N : Nat} (h3 : B + 1 + 1 < B3) (h5 : B3 + 1 + 1 < Bs) (h6 : Bs < N) (c : Code) : OwnFrom N (AllX w0 s most B B3 Bs c) :=
  fun _ _ _ _ hs hg hr => hs.elim .inl fun h => .inr ⟨h.1, h.2.1.kept h3 h5 h6 hg (fun r e => (hr r e).1), h.2.2⟩

theorem all_walk (s : Nat → Nat) (hs : W64 s) (most : Int) (hm1 : -9223372036854775808 ≤ most) (hm2 : most ≤ 9223372036854775807) (w : World) : Calls Try.prog 7 #[.agg (AV s), .int .i64 most] w fun e w' => e = .returned (.bool true) ∧ Below w.heap.size w w' := by
  refine (callsIn_wide (n := 3)).1 ?_
  refine callsIn_of_wp_marks Try.func7 rfl trivial ?_ rfl
  simp only [Try.ntmps7, List.size_toArray, List.length_cons, List.length_nil, Nat.reduceAdd, Nat.reduceSub, Array.replicate_succ, Array.replicate_zero, List.push_toArray, List.append_toArray, List.nil_append, List.cons_append]
  refine wpIn_wide.2 ?_
  go_wp2_with fail
  obtain ⟨B, hB⟩ : ∃ B, B = w.heap.size := ⟨_, rfl⟩
  have H0 : Hid ((((w.alloc (.cells (AV s) 24)).alloc (.cells #[.int .i64 most] 3)).alloc (.cells #[.bool false] 4)).heap[B]? = some (.cells (AV s) 24)) := Lib.hid ((heap_past _ _ _ (by simp; omega)).trans ((heap_past _ _ _ (by simp; omega)).trans (heap_at _ _ _ hB)))
  have H1 : Hid ((((w.alloc (.cells (AV s) 24)).alloc (.cells #[.int .i64 most] 3)).alloc (.cells #[.bool false] 4)).heap[B + 1]? = some (.cells #[.int .i64 most] 3)) := Lib.hid ((heap_past _ _ _ (by simp; omega)).trans (heap_at _ _ _ (by simp; omega)))
  have H2 : Hid ((((w.alloc (.cells (AV s) 24)).alloc (.cells #[.int .i64 most] 3)).alloc (.cells #[.bool false] 4)).heap[B + 1 + 1]? = some (.cells #[.bool false] 4)) := Lib.hid (heap_at _ _ _ (by simp; omega))
  have HE : Hid (Grew w (((w.alloc (.cells (AV s) 24)).alloc (.cells #[.int .i64 most] 3)).alloc (.cells #[.bool false] 4))) := Lib.hid ((grew_alloc _ _).trans ((grew_alloc _ _).trans (grew_alloc _ _)))
  rw [← hB]
  generalize ((w.alloc (.cells (AV s) 24)).alloc (.cells #[.int .i64 most] 3)).alloc (.cells #[.bool false] 4) = w1 at H0 H1 H2 HE ⊢
  have HB := Lib.hid hB
  clear hB
  refine (alive_c _).mono ?_
  rintro e w2 ⟨rfl, hb2⟩
  have H0 := Lib.hid (block_below' hb2 H0.out)
  have H1 := Lib.hid (block_below' hb2 H1.out)
  have H2 := Lib.hid (block_below' hb2 H2.out)
  have HE := Lib.hid (HE.out.trans hb2)
  clear hb2
  go_wp2_with (first | (refine wpList_load_row rfl 24 _ rfl _ rfl _ _ _ _ H0.out Try.underlying24 rfl (i24 _) ?_; simp only [Act.put, List.setIfInBounds_toArray, List.set_cons_zero, List.set_cons_succ]) | fail)
  refine (refOf_c s hs _).mono ?_
  rintro e w3 ⟨rfl, hb3⟩
  have H0 := Lib.hid (block_below' hb3 H0.out)
  have H1 := Lib.hid (block_below' hb3 H1.out)
  have H2 := Lib.hid (block_below' hb3 H2.out)
  have HE := Lib.hid (HE.out.trans hb3)
  have hl2 := lt_of_block H2.out
  clear hb3
  go_wp2_with (first | (refine wpList_alloc_row rfl 29 rfl _ z29 ?_; simp only [Act.put, List.setIfInBounds_toArray, List.set_cons_zero, List.set_cons_succ]) | (refine wpList_store_row rfl 29 _ _ rfl _ rfl _ rfl _ _ (heap_at _ _ _ rfl) (i29 _) (by simp only [BV_size]) (BV_one _) ?_; rw [setRow_alloc _ _ _ _ _ rfl]; simp only [Act.put, List.setIfInBounds_toArray, List.set_cons_zero, List.set_cons_succ]) | (refine wpList_load_row rfl 24 _ rfl _ rfl _ _ _ _ ((heap_past _ _ _ (by simp; omega)).trans ((heap_past _ _ _ (by simp; omega)).trans ((heap_past _ _ _ (by omega)).trans H0.out))) Try.underlying24 rfl (i24 _) ?_; simp only [Act.put, List.setIfInBounds_toArray, List.set_cons_zero, List.set_cons_succ]) | fail)
  obtain ⟨B3, hB3⟩ : ∃ B3, B3 = w3.heap.size := ⟨_, rfl⟩
  have hlt3 : B + 1 + 1 < B3 := by omega
  have K3 : Hid ((((w3.alloc (.cells (BV (bit s)) 29)).alloc (.cells #[.int .i64 (-1)] 3)).alloc (.cells #[.int .i64 0] 3)).heap[B3]? = some (.cells (BV (bit s)) 29)) := Lib.hid ((heap_past _ _ _ (by simp; omega)).trans ((heap_past _ _ _ (by simp; omega)).trans (heap_at _ _ _ hB3)))
  have K4 : Hid ((((w3.alloc (.cells (BV (bit s)) 29)).alloc (.cells #[.int .i64 (-1)] 3)).alloc (.cells #[.int .i64 0] 3)).heap[B3 + 1]? = some (.cells #[.int .i64 (-1)] 3)) := Lib.hid ((heap_past _ _ _ (by simp; omega)).trans (heap_at _ _ _ (by simp; omega)))
  have K5 : Hid ((((w3.alloc (.cells (BV (bit s)) 29)).alloc (.cells #[.int .i64 (-1)] 3)).alloc (.cells #[.int .i64 0] 3)).heap[B3 + 1 + 1]? = some (.cells #[.int .i64 0] 3)) := Lib.hid (heap_at _ _ _ (by simp; omega))
  have KE : Hid (Grew w3 (((w3.alloc (.cells (BV (bit s)) 29)).alloc (.cells #[.int .i64 (-1)] 3)).alloc (.cells #[.int .i64 0] 3))) := Lib.hid ((grew_alloc _ _).trans ((grew_alloc _ _).trans (grew_alloc _ _)))
  rw [← hB3]
  generalize ((w3.alloc (.cells (BV (bit s)) 29)).alloc (.cells #[.int .i64 (-1)] 3)).alloc (.cells #[.int .i64 0] 3) = w4 at K3 K4 K5 KE ⊢
  clear hB3 hl2
  have K0 := Lib.hid (block_below' KE.out H0.out)
  have K1 := Lib.hid (block_below' KE.out H1.out)
  have K2 := Lib.hid (block_below' KE.out H2.out)
  have HE := Lib.hid (HE.out.trans KE.out)
  clear H0 H1 H2 KE
  refine (all_c s _).mono ?_
  rintro e w5 ⟨rfl, hw5⟩
  obtain ⟨Bs, hBs⟩ : ∃ Bs, Bs = w4.heap.size := ⟨_, rfl⟩
  rw [← hBs]
  have hl5 := lt_of_block K5.out
  have hlt5 : B3 + 1 + 1 < Bs := by omega
  have hgr : Grew w4 w5 := by rw [hw5]; exact grew_alloc _ _
  have KS : Hid (w5.heap[Bs]? = some (.cells (AV s) 24)) := Lib.hid (by rw [hw5]; exact heap_at _ _ _ hBs)
  have K1 := Lib.hid (block_below' hgr K1.out)
  have K2 := Lib.hid (block_below' hgr K2.out)
  have K3 := Lib.hid (block_below' hgr K3.out)
  have K4 := Lib.hid (block_below' hgr K4.out)
  have K5 := Lib.hid (block_below' hgr K5.out)
  have HE := Lib.hid (HE.out.trans hgr)
  have hlt6 := lt_of_block KS.out
  clear hgr hw5 hBs hl5 K0
  go_wp2_with fail
  refine (wpIn_wide (n := 3)).1 ?_
  have HB0 : Hid (Below w.heap.size w w5) := Lib.hid HE.out
  refine wpIn_rangeFunc_ownF (F := Fence.wide) (n := 3) rfl (by omega) (gf := 33) (lb := #[.pointer (some ⟨Bs, 0, none⟩)]) rfl trivial (enters_of Try.func33 (by kernel_rfl) rfl)
    (all1_stops s hs 2 Bs w5 KS.out) (fun h k => Eq.trans k h) (fun W l o o' hl _ _ _ => World.putObj_heap_other (by omega)) (Below.refl _ _) (fun _ => rfl)
    (AllI w s most B B3 Bs) (AllX w s most B B3 Bs) (allI_own hlt3 hlt5 hlt6) (allX_own hlt3 hlt5 hlt6) ?start
    (fun x => { tmps := #[.agg (AV s), .int .i64 most, .pointer (some ⟨B, 0, none⟩), .pointer (some ⟨B + 1, 0, none⟩), .pointer (some ⟨B + 1 + 1, 0, none⟩), .pointer (some ⟨B3, 0, none⟩), .pointer (some ⟨B3 + 1, 0, none⟩), .pointer (some ⟨B3 + 1 + 1, 0, none⟩), (.int .u8 (x.val : Nat)), .bool true, .bool false, .agg (AV s), .agg (BV (bit s)), .agg (AV s), .func (.func 33) #[] #[.pointer (some ⟨Bs, 0, none⟩)], (.int .u8 (x.val : Nat)), undef, undef, undef, undef, undef, undef, undef, undef, undef, undef, undef, undef, undef, undef, undef, undef, undef, undef, undef, undef, undef, undef, undef, undef, undef, undef, undef, undef, undef, undef, undef, undef], defers := [] }) ?assign ?body ?done ?stop
  case start => exact ⟨⟨K1.out, ⟨_, K2.out⟩, K3.out, K4.out, K5.out, KS.out, by rw [HB.out]; exact HE.out⟩, by simp; omega⟩
  case assign =>
    intro l x W K hK
    gi_wp2
    exact hK
  case body =>
    rintro l pre x W ⟨hR, hmo⟩ hlen
    have hx := x.isLt
    have hla := lastI_bd pre
    have HR : Hid (∀ la k, la = lastI pre → k = pre.length → Rnd w s most B B3 Bs la k W) := Lib.hid fun la k e1 e2 => by rw [e1, e2]; exact hR
    have HXL : Hid (lastI (pre ++ [x]) = ((x.val : Nat) : Int) ∧ (pre ++ [x]).length = pre.length + 1) := Lib.hid ⟨lastI_snoc pre x, by simp⟩
    obtain ⟨la, hla2⟩ : ∃ la, la = lastI pre := ⟨_, rfl⟩
    obtain ⟨k, hk2⟩ : ∃ k, k = pre.length := ⟨_, rfl⟩
    obtain ⟨z, hz2⟩ : ∃ z, z = x.val := ⟨_, rfl⟩
    have HR := Lib.hid (HR.out la k hla2 hk2)
    have d1 := cell_one HR.out.h1
    obtain ⟨r0, d2h⟩ := HR.out.h2
    have d2 := cell_one d2h
    have d4 := cell_one HR.out.h4
    have d5 := cell_one HR.out.h5
    have f2 := frozen_of_row W (B + 1 + 1) 0 _ _ d2h
    have f4 := frozen_of_row W (B3 + 1) 0 _ _ HR.out.h4
    have f5 := frozen_of_row W (B3 + 1 + 1) 0 _ _ HR.out.h5
    have d3 : W.cell? ⟨B3, z, none⟩ = some (.bool (bit s z)) := by rw [cell_of_row W _ _ _ _ _ HR.out.h3, BV_get _ _ (by omega)]
    rw [← hla2] at hla
    rw [← hk2] at hlen hmo
    rw [← hz2] at hx ⊢
    have HZ := Lib.hid hz2; have HLA := Lib.hid hla2; have HK := Lib.hid hk2
    obtain ⟨hla1, hlab⟩ := hla
    clear hz2 hla2 hk2 hR d2h
    by_cases hle : (z : Int) ≤ la
    · have HLE := Lib.hid hle
      gi_wp2_with fail
      exact ⟨KeepsOthers.setCell _ _ _, .inl ⟨rfl, _, _, rfl, .inl (by rw [← HZ.out, ← HLA.out]; exact HLE.out)⟩⟩
    · have hlt : la < (z : Int) := by omega
      clear hle
      cases hbit : bit s z with
      | false =>
        rw [hbit] at d3
        have HBT := Lib.hid hbit
        clear hbit
        gi_wp2_with fail
        exact ⟨KeepsOthers.setCell _ _ _, .inl ⟨rfl, _, _, rfl, .inr (by rw [← HZ.out]; exact HBT.out)⟩⟩
      | true =>
        rw [hbit] at d3
        clear hbit
        have HST := Lib.hid (HR.out.step hlt3 hlt5 (z : Int))
        by_cases hmk : (k : Int) + 1 = most
        · have HMK := Lib.hid hmk
          have b1 : (((k : Int) + 1) == most) = true := beq_iff_eq.2 hmk
          clear hmk
          gi_wp2_with fail
          exact ⟨keeps_two _ _ _ _ _, .inr ⟨rfl, by rw [HXL.out.1, HXL.out.2, ← HZ.out, ← HK.out]; exact HST.out, by rw [HXL.out.2, ← HK.out]; have := HMK.out; omega, by have := HMK.out; omega⟩⟩
        · have b1 : (((k : Int) + 1) == most) = false := beq_eq_false_iff_ne.2 hmk
          have HMK : Hid (most ≤ 0 ∨ ((k + 1 : Nat) : Int) < most) := Lib.hid (by omega)
          clear hmk
          gi_wp2_with fail
          exact ⟨keeps_two _ _ _ _ _, (heap_setCell_other _ _ _ _ (by simp; omega)).trans (heap_setCell_other _ _ _ _ (by simp; omega)), by rw [HXL.out.1, HXL.out.2, ← HZ.out, ← HK.out]; exact HST.out, by rw [HXL.out.2, ← HK.out]; exact HMK.out⟩
  case done =>
    rintro D ys W hD rfl ⟨hR, hmo⟩ hK
    obtain ⟨k, hk2⟩ : ∃ k, k = (lst s 256).length := ⟨_, rfl⟩
    obtain ⟨la, hla2⟩ : ∃ la, la = lastI (lst s 256) := ⟨_, rfl⟩
    obtain ⟨c, hc2⟩ : ∃ c, c = k := ⟨_, rfl⟩
    have HC : Hid (cnt (bit s) 256 = c) := Lib.hid (by rw [hc2, hk2, lst_cnt s 256 (by omega)])
    have hcb : c ≤ 256 := by rw [hc2, hk2]; exact lst_len s 256
    rw [← hk2, ← hla2] at hR
    rw [← hk2] at hmo
    have HR := Lib.hid hR
    have HKK := Lib.hid hK
    have b1 : ((k : Int) == (c : Int)) = true := beq_iff_eq.2 (by omega)
    have hge : (c : Int) ≤ k := by omega
    have hDD : B + 1 + 1 < D := by omega
    clear hR hK
    by_cases hpos : 0 < most
    · have hlt : (c : Int) < most := by omega
      clear hk2 hla2 hc2 hmo
      go_wp2_with fail
      refine wp_region_grows 8 [IsV (.int .i64 most), IsV (.bool true), IsV (.bool true), IsV (.int .i64 most), IsV (.agg (BV (bit s))), IsV (.int .i64 (c : Nat)), IsV (.bool false), IsV (.bool false)] []
        [[], [(0, 33)], [(1, 34)], [(2, 35)], [(2, 35)], [(2, 35), (4, 37)], [(2, 35), (3, 36), (5, 38)], [(2, 35), (6, 39)]] [(0, 33), (1, 34), (2, 35), (3, 36), (4, 37), (5, 38), (6, 39), (7, 40)] (by kernel_rfl) (by kernel_rfl) rfl ?stable ⟨?o0, ?o1, ?o2, ?o3, ?o4, ?o5, ?o6, ?o7, trivial⟩ ?fin
      case stable => exact ⟨IsV.stable _, IsV.stable _, IsV.stable _, IsV.stable _, IsV.stable _, IsV.stable _, IsV.stable _, IsV.stable _, trivial⟩
      case o0 =>
        intro vals w' hg hd
        clear hd
        simp only [putS, List.foldl_nil]
        have d1 := cell_one (block_below' hg HR.out.h1)
        clear hg
        go_simp
        exact isV_mk _ _
      case o1 =>
        intro vals w' hg hd
        have h0 : vals 0 = .int .i64 most := hd.1
        clear hd
        simp only [putS, List.foldl_nil, List.foldl_cons, Act.put, List.setIfInBounds_toArray, List.set_cons_zero, List.set_cons_succ, h0]
        clear hg h0
        go_simp
        try go_bits
        exact isV_mk _ _
      case o2 =>
        intro vals w' hg hd
        have h1 : vals 1 = .bool true := hd.1
        clear hd
        simp only [putS, List.foldl_nil, List.foldl_cons, Act.put, List.setIfInBounds_toArray, List.set_cons_zero, List.set_cons_succ, h1]
        clear hg h1
        go_simp
        try go_bits
        exact isV_mk _ _
      case o3 =>
        intro vals w' hg hd
        have h2 : vals 2 = .bool true := hd.1
        clear hd
        simp only [putS, List.foldl_nil, List.foldl_cons, Act.put, List.setIfInBounds_toArray, List.set_cons_zero, List.set_cons_succ, h2]
        have d1 := cell_one (block_below' hg HR.out.h1)
        clear hg h2
        go_simp
        exact isV_mk _ _
      case o4 =>
        intro vals w' hg hd
        have h2 : vals 2 = .bool true := hd.1
        clear hd
        simp only [putS, List.foldl_nil, List.foldl_cons, Act.put, List.setIfInBounds_toArray, List.set_cons_zero, List.set_cons_succ, h2]
        exact one_load_row (by rfl) _ _ rfl _ rfl _ _ _ _ (block_below' hg HR.out.h3) Try.underlying29 rfl (i29 _) (isV_mk _ _)
      case o5 =>
        intro vals w' hg hd
        have h2 : vals 2 = .bool true := hd.1
        have h4 : vals 4 = .agg (BV (bit s)) := hd.2.1
        clear hd
        simp only [putS, List.foldl_nil, List.foldl_cons, Act.put, List.setIfInBounds_toArray, List.set_cons_zero, List.set_cons_succ, h2, h4]
        clear hg h2 h4
        go_simp
        exact (refLen_c (bit s) w').mono fun e w2 ⟨he, hb⟩ => ⟨_, he, hb, congrArg (fun n : Nat => Value.int .i64 n) HC.out⟩
      case o6 =>
        intro vals w' hg hd
        have h2 : vals 2 = .bool true := hd.1
        have h3 : vals 3 = .int .i64 most := hd.2.1
        have h5 : vals 5 = .int .i64 (c : Nat) := hd.2.2.1
        clear hd
        simp only [putS, List.foldl_nil, List.foldl_cons, Act.put, List.setIfInBounds_toArray, List.set_cons_zero, List.set_cons_succ, h2, h3, h5]
        have hdd : decide (most < (c : Int)) = false := by simp; omega
        clear hg h2 h3 h5
        go_simp
        first | exact isV_mk _ _ | exact congrArg Value.bool hdd
      case o7 =>
        intro vals w' hg hd
        have h2 : vals 2 = .bool true := hd.1
        have h6 : vals 6 = .bool false := hd.2.1
        clear hd
        simp only [putS, List.foldl_nil, List.foldl_cons, Act.put, List.setIfInBounds_toArray, List.set_cons_zero, List.set_cons_succ, h2, h6]
        clear hg h2 h6
        go_simp
        try go_bits
        exact isV_mk _ _
      case fin =>
        intro vals w' hg hd hfresh
        have h0 : vals 0 = .int .i64 most := hd.1
        have h1 : vals 1 = .bool true := hd.2.1
        have h2 : vals 2 = .bool true := hd.2.2.1
        have h3 : vals 3 = .int .i64 most := hd.2.2.2.1
        have h4 : vals 4 = .agg (BV (bit s)) := hd.2.2.2.2.1
        have h5 : vals 5 = .int .i64 (c : Nat) := hd.2.2.2.2.2.1
        have h6 : vals 6 = .bool false := hd.2.2.2.2.2.2.1
        have h7 : vals 7 = .bool false := hd.2.2.2.2.2.2.2.1
        clear hd
        simp only [putS, List.foldl_nil, List.foldl_cons, Act.put, List.setIfInBounds_toArray, List.set_cons_zero, List.set_cons_succ, List.drop_succ_cons, List.drop_zero, h0, h1, h2, h3, h4, h5, h6, h7]
        have HR := Lib.hid (HR.out.grew hg)
        have HKK := Lib.hid (block_below' hg HKK.out)
        clear hg hfresh h0 h1 h2 h3 h4 h5 h6 h7
        go_wp2_with fail
        refine wp_region_grows 4 [IsV (.int .i64 k), IsV (.agg (BV (bit s))), IsV (.int .i64 (c : Nat)), IsV (.bool true)] []
          [[], [], [(1, 45)], [(0, 44), (2, 46)]] [(0, 44), (1, 45), (2, 46), (3, 47)] (by kernel_rfl) (by kernel_rfl) rfl ?stable ⟨?o0, ?o1, ?o2, ?o3, trivial⟩ ?fin
        case stable => exact ⟨IsV.stable _, IsV.stable _, IsV.stable _, IsV.stable _, trivial⟩
        case o0 =>
          intro vals w' hg hd
          clear hd
          simp only [putS, List.foldl_nil]
          have d5 := cell_one (block_below' hg HR.out.h5)
          clear hg
          go_simp
          exact isV_mk _ _
        case o1 =>
          intro vals w' hg hd
          clear hd
          simp only [putS, List.foldl_nil]
          exact one_load_row (by rfl) _ _ rfl _ rfl _ _ _ _ (block_below' hg HR.out.h3) Try.underlying29 rfl (i29 _) (isV_mk _ _)
        case o2 =>
          intro vals w' hg hd
          have h1 : vals 1 = .agg (BV (bit s)) := hd.1
          clear hd
          simp only [putS, List.foldl_nil, List.foldl_cons, Act.put, List.setIfInBounds_toArray, List.set_cons_zero, List.set_cons_succ, h1]
          clear hg h1
          go_simp
          exact (refLen_c (bit s) w').mono fun e w2 ⟨he, hb⟩ => ⟨_, he, hb, congrArg (fun n : Nat => Value.int .i64 n) HC.out⟩
        case o3 =>
          intro vals w' hg hd
          have h0 : vals 0 = .int .i64 k := hd.1
          have h2 : vals 2 = .int .i64 (c : Nat) := hd.2.1
          clear hd
          simp only [putS, List.foldl_nil, List.foldl_cons, Act.put, List.setIfInBounds_toArray, List.set_cons_zero, List.set_cons_succ, h0, h2]
          clear hg h0 h2
          go_simp
          try go_bits
          exact isV_mk _ _
        case fin =>
          intro vals w' hg hd hfresh
          have h0 : vals 0 = .int .i64 k := hd.1
          have h1 : vals 1 = .agg (BV (bit s)) := hd.2.1
          have h2 : vals 2 = .int .i64 (c : Nat) := hd.2.2.1
          have h3 : vals 3 = .bool true := hd.2.2.2.1
          clear hd
          simp only [putS, List.foldl_nil, List.foldl_cons, Act.put, List.setIfInBounds_toArray, List.set_cons_zero, List.set_cons_succ, List.drop_succ_cons, List.drop_zero, h0, h1, h2, h3]
          have HR := Lib.hid (HR.out.grew hg)
          have HKK := Lib.hid (block_below' hg HKK.out)
          clear hg hfresh h0 h1 h2 h3
          obtain ⟨r1, h2⟩ := HR.out.h2
          have d2 := cell_one h2
          have f2 := frozen_of_row _ (B + 1 + 1) 0 _ _ h2
          have HN := Lib.hid (HR.out.done h2 hlt3)
          have HKK := Lib.hid ((heap_setCell_other _ ⟨B + 1 + 1, 0, none⟩ _ (.bool true) (by simp; omega)).trans HKK.out)
          clear h2
          go_wp2_with fail
          refine all_end hlt3 (by omega) HB.out HN.out HKK.out rfl
    · have hle : most ≤ 0 := by omega
      have hdec : decide (0 < most) = false := by simpa using hpos
      have d1 := cell_one HR.out.h1
      clear hk2 hla2 hc2 hmo hpos
      go_wp2_with fail
      go_quiet (fail)
      clear d1
      have HR := Lib.hid (HR.out.grew (below_drewN (Below.refl _ _) nq))
      have HKK := Lib.hid (block_below' (below_drewN (Below.refl _ _) nq) HKK.out)
      go_wp2_with fail
      refine wp_region_grows 4 [IsV (.int .i64 k), IsV (.agg (BV (bit s))), IsV (.int .i64 (c : Nat)), IsV (.bool true)] []
        [[], [], [(1, 45)], [(0, 44), (2, 46)]] [(0, 44), (1, 45), (2, 46), (3, 47)] (by kernel_rfl) (by kernel_rfl) rfl ?stable ⟨?o0, ?o1, ?o2, ?o3, trivial⟩ ?fin
      case stable => exact ⟨IsV.stable _, IsV.stable _, IsV.stable _, IsV.stable _, trivial⟩
      case o0 =>
        intro vals w' hg hd
        clear hd
        simp only [putS, List.foldl_nil]
        have d5 := cell_one (block_below' hg HR.out.h5)
        clear hg
        go_simp
        exact isV_mk _ _
      case o1 =>
        intro vals w' hg hd
        clear hd
        simp only [putS, List.foldl_nil]
        exact one_load_row (by rfl) _ _ rfl _ rfl _ _ _ _ (block_below' hg HR.out.h3) Try.underlying29 rfl (i29 _) (isV_mk _ _)
      case o2 =>
        intro vals w' hg hd
        have h1 : vals 1 = .agg (BV (bit s)) := hd.1
        clear hd
        simp only [putS, List.foldl_nil, List.foldl_cons, Act.put, List.setIfInBounds_toArray, List.set_cons_zero, List.set_cons_succ, h1]
        clear hg h1
        go_simp
        exact (refLen_c (bit s) w').mono fun e w2 ⟨he, hb⟩ => ⟨_, he, hb, congrArg (fun n : Nat => Value.int .i64 n) HC.out⟩
      case o3 =>
        intro vals w' hg hd
        have h0 : vals 0 = .int .i64 k := hd.1
        have h2 : vals 2 = .int .i64 (c : Nat) := hd.2.1
        clear hd
        simp only [putS, List.foldl_nil, List.foldl_cons, Act.put, List.setIfInBounds_toArray, List.set_cons_zero, List.set_cons_succ, h0, h2]
        clear hg h0 h2
        go_simp
        try go_bits
        exact isV_mk _ _
      case fin =>
        intro vals w' hg hd hfresh
        have h0 : vals 0 = .int .i64 k := hd.1
        have h1 : vals 1 = .agg (BV (bit s)) := hd.2.1
        have h2 : vals 2 = .int .i64 (c : Nat) := hd.2.2.1
        have h3 : vals 3 = .bool true := hd.2.2.2.1
        clear hd
        simp only [putS, List.foldl_nil, List.foldl_cons, Act.put, List.setIfInBounds_toArray, List.set_cons_zero, List.set_cons_succ, List.drop_succ_cons, List.drop_zero, h0, h1, h2, h3]
        have HR := Lib.hid (HR.out.grew hg)
        have HKK := Lib.hid (block_below' hg HKK.out)
        clear hg hfresh h0 h1 h2 h3
        obtain ⟨r1, h2⟩ := HR.out.h2
        have d2 := cell_one h2
        have f2 := frozen_of_row _ (B + 1 + 1) 0 _ _ h2
        have HN := Lib.hid (HR.out.done h2 hlt3)
        have HKK := Lib.hid ((heap_setCell_other _ ⟨B + 1 + 1, 0, none⟩ _ (.bool true) (by simp; omega)).trans HKK.out)
        clear h2
        go_wp2_with fail
        refine all_end hlt3 (by omega) HB.out HN.out HKK.out rfl
  case stop =>
    rintro D c0 pre W hD hSp (⟨rfl, q, x, rfl, hbad⟩ | ⟨rfl, hR, hmo, hpos⟩) hK
    · have hg := lst_good s 256 q x hSp
      rcases hbad with h | h
      · exact absurd hg.1 (by omega)
      · rw [hg.2.1] at h; cases h
    · refine wpIn_wide.2 ?_
      obtain ⟨k, hk2⟩ : ∃ k, k = pre.length := ⟨_, rfl⟩
      obtain ⟨la, hla2⟩ : ∃ la, la = lastI pre := ⟨_, rfl⟩
      obtain ⟨c, hc2⟩ : ∃ c, c = (lst s 256).length := ⟨_, rfl⟩
      have HC : Hid (cnt (bit s) 256 = c) := Lib.hid (by rw [hc2, lst_cnt s 256 (by omega)])
      have hcb : c ≤ 256 := by rw [hc2]; exact lst_len s 256
      have hkc : k ≤ c := by rw [hk2, hc2]; exact hSp.length_le
      rw [← hk2, ← hla2] at hR
      rw [← hk2] at hmo
      have HR := Lib.hid hR
      have HKK := Lib.hid hK
      have hDD : B + 1 + 1 < D := by omega
      clear hR hK hSp hk2 hla2 hc2
      by_cases hkc2 : k = c
      · have b1 : ((k : Int) == (c : Int)) = true := beq_iff_eq.2 (by omega)
        have hge : (c : Int) ≤ most := by omega
        clear hmo hkc2 hkc
        go_wp2_with fail
        refine wp_region_grows 8 [IsV (.int .i64 most), IsV (.bool true), IsV (.bool true), IsV (.int .i64 most), IsV (.agg (BV (bit s))), IsV (.int .i64 (c : Nat)), IsV (.bool false), IsV (.bool false)] []
          [[], [(0, 33)], [(1, 34)], [(2, 35)], [(2, 35)], [(2, 35), (4, 37)], [(2, 35), (3, 36), (5, 38)], [(2, 35), (6, 39)]] [(0, 33), (1, 34), (2, 35), (3, 36), (4, 37), (5, 38), (6, 39), (7, 40)] (by kernel_rfl) (by kernel_rfl) rfl ?stable ⟨?o0, ?o1, ?o2, ?o3, ?o4, ?o5, ?o6, ?o7, trivial⟩ ?fin
        case stable => exact ⟨IsV.stable _, IsV.stable _, IsV.stable _, IsV.stable _, IsV.stable _, IsV.stable _, IsV.stable _, IsV.stable _, trivial⟩
        case o0 =>
          intro vals w' hg hd
          clear hd
          simp only [putS, List.foldl_nil]
          have d1 := cell_one (block_below' hg HR.out.h1)
          clear hg
          go_simp
          exact isV_mk _ _
        case o1 =>
          intro vals w' hg hd
          have h0 : vals 0 = .int .i64 most := hd.1
          clear hd
          simp only [putS, List.foldl_nil, List.foldl_cons, Act.put, List.setIfInBounds_toArray, List.set_cons_zero, List.set_cons_succ, h0]
          clear hg h0
          go_simp
          try go_bits
          exact isV_mk _ _
        case o2 =>
          intro vals w' hg hd
          have h1 : vals 1 = .bool true := hd.1
          clear hd
          simp only [putS, List.foldl_nil, List.foldl_cons, Act.put, List.setIfInBounds_toArray, List.set_cons_zero, List.set_cons_succ, h1]
          clear hg h1
          go_simp
          try go_bits
          exact isV_mk _ _
        case o3 =>
          intro vals w' hg hd
          have h2 : vals 2 = .bool true := hd.1
          clear hd
          simp only [putS, List.foldl_nil, List.foldl_cons, Act.put, List.setIfInBounds_toArray, List.set_cons_zero, List.set_cons_succ, h2]
          have d1 := cell_one (block_below' hg HR.out.h1)
          clear hg h2
          go_simp
          exact isV_mk _ _
        case o4 =>
          intro vals w' hg hd
          have h2 : vals 2 = .bool true := hd.1
          clear hd
          simp only [putS, List.foldl_nil, List.foldl_cons, Act.put, List.setIfInBounds_toArray, List.set_cons_zero, List.set_cons_succ, h2]
          exact one_load_row (by rfl) _ _ rfl _ rfl _ _ _ _ (block_below' hg HR.out.h3) Try.underlying29 rfl (i29 _) (isV_mk _ _)
        case o5 =>
          intro vals w' hg hd
          have h2 : vals 2 = .bool true := hd.1
          have h4 : vals 4 = .agg (BV (bit s)) := hd.2.1
          clear hd
          simp only [putS, List.foldl_nil, List.foldl_cons, Act.put, List.setIfInBounds_toArray, List.set_cons_zero, List.set_cons_succ, h2, h4]
          clear hg h2 h4
          go_simp
          exact (refLen_c (bit s) w').mono fun e w2 ⟨he, hb⟩ => ⟨_, he, hb, congrArg (fun n : Nat => Value.int .i64 n) HC.out⟩
        case o6 =>
          intro vals w' hg hd
          have h2 : vals 2 = .bool true := hd.1
          have h3 : vals 3 = .int .i64 most := hd.2.1
          have h5 : vals 5 = .int .i64 (c : Nat) := hd.2.2.1
          clear hd
          simp only [putS, List.foldl_nil, List.foldl_cons, Act.put, List.setIfInBounds_toArray, List.set_cons_zero, List.set_cons_succ, h2, h3, h5]
          have hdd : decide (most < (c : Int)) = false := by simp; omega
          clear hg h2 h3 h5
          go_simp
          first | exact isV_mk _ _ | exact congrArg Value.bool hdd
        case o7 =>
          intro vals w' hg hd
          have h2 : vals 2 = .bool true := hd.1
          have h6 : vals 6 = .bool false := hd.2.1
          clear hd
          simp only [putS, List.foldl_nil, List.foldl_cons, Act.put, List.setIfInBounds_toArray, List.set_cons_zero, List.set_cons_succ, h2, h6]
          clear hg h2 h6
          go_simp
          try go_bits
          exact isV_mk _ _
        case fin =>
          intro vals w' hg hd hfresh
          have h0 : vals 0 = .int .i64 most := hd.1
          have h1 : vals 1 = .bool true := hd.2.1
          have h2 : vals 2 = .bool true := hd.2.2.1
          have h3 : vals 3 = .int .i64 most := hd.2.2.2.1
          have h4 : vals 4 = .agg (BV (bit s)) := hd.2.2.2.2.1
          have h5 : vals 5 = .int .i64 (c : Nat) := hd.2.2.2.2.2.1
          have h6 : vals 6 = .bool false := hd.2.2.2.2.2.2.1
          have h7 : vals 7 = .bool false := hd.2.2.2.2.2.2.2.1
          clear hd
          simp only [putS, List.foldl_nil, List.foldl_cons, Act.put, List.setIfInBounds_toArray, List.set_cons_zero, List.set_cons_succ, List.drop_succ_cons, List.drop_zero, h0, h1, h2, h3, h4, h5, h6, h7]
          have HR := Lib.hid (HR.out.grew hg)
          have HKK := Lib.hid (block_below' hg HKK.out)
          clear hg hfresh h0 h1 h2 h3 h4 h5 h6 h7
          go_wp2_with fail
          refine wp_region_grows 4 [IsV (.int .i64 k), IsV (.agg (BV (bit s))), IsV (.int .i64 (c : Nat)), IsV (.bool true)] []
            [[], [], [(1, 45)], [(0, 44), (2, 46)]] [(0, 44), (1, 45), (2, 46), (3, 47)] (by kernel_rfl) (by kernel_rfl) rfl ?stable ⟨?o0, ?o1, ?o2, ?o3, trivial⟩ ?fin
          case stable => exact ⟨IsV.stable _, IsV.stable _, IsV.stable _, IsV.stable _, trivial⟩
          case o0 =>
            intro vals w' hg hd
            clear hd
            simp only [putS, List.foldl_nil]
            have d5 := cell_one (block_below' hg HR.out.h5)
            clear hg
            go_simp
            exact isV_mk _ _
          case o1 =>
            intro vals w' hg hd
            clear hd
            simp only [putS, List.foldl_nil]
            exact one_load_row (by rfl) _ _ rfl _ rfl _ _ _ _ (block_below' hg HR.out.h3) Try.underlying29 rfl (i29 _) (isV_mk _ _)
          case o2 =>
            intro vals w' hg hd
            have h1 : vals 1 = .agg (BV (bit s)) := hd.1
            clear hd
            simp only [putS, List.foldl_nil, List.foldl_cons, Act.put, List.setIfInBounds_toArray, List.set_cons_zero, List.set_cons_succ, h1]
            clear hg h1
            go_simp
            exact (refLen_c (bit s) w').mono fun e w2 ⟨he, hb⟩ => ⟨_, he, hb, congrArg (fun n : Nat => Value.int .i64 n) HC.out⟩
          case o3 =>
            intro vals w' hg hd
            have h0 : vals 0 = .int .i64 k := hd.1
            have h2 : vals 2 = .int .i64 (c : Nat) := hd.2.1
            clear hd
            simp only [putS, List.foldl_nil, List.foldl_cons, Act.put, List.setIfInBounds_toArray, List.set_cons_zero, List.set_cons_succ, h0, h2]
            clear hg h0 h2
            go_simp
            try go_bits
            exact isV_mk _ _
          case fin =>
            intro vals w' hg hd hfresh
            have h0 : vals 0 = .int .i64 k := hd.1
            have h1 : vals 1 = .agg (BV (bit s)) := hd.2.1
            have h2 : vals 2 = .int .i64 (c : Nat) := hd.2.2.1
            have h3 : vals 3 = .bool true := hd.2.2.2.1
            clear hd
            simp only [putS, List.foldl_nil, List.foldl_cons, Act.put, List.setIfInBounds_toArray, List.set_cons_zero, List.set_cons_succ, List.drop_succ_cons, List.drop_zero, h0, h1, h2, h3]
            have HR := Lib.hid (HR.out.grew hg)
            have HKK := Lib.hid (block_below' hg HKK.out)
            clear hg hfresh h0 h1 h2 h3
            obtain ⟨r1, h2⟩ := HR.out.h2
            have d2 := cell_one h2
            have f2 := frozen_of_row _ (B + 1 + 1) 0 _ _ h2
            have HN := Lib.hid (HR.out.done h2 hlt3)
            have HKK := Lib.hid ((heap_setCell_other _ ⟨B + 1 + 1, 0, none⟩ _ (.bool true) (by simp; omega)).trans HKK.out)
            clear h2
            go_wp2_with fail
            refine all_end hlt3 (by omega) HB.out HN.out HKK.out rfl
      · have b2 : ((k : Int) == most) = true := beq_iff_eq.2 hmo
        have hlt : most < (c : Int) := by omega
        clear hmo hkc2 hkc
        go_wp2_with fail
        refine wp_region_grows 8 [IsV (.int .i64 most), IsV (.bool true), IsV (.bool true), IsV (.int .i64 most), IsV (.agg (BV (bit s))), IsV (.int .i64 (c : Nat)), IsV (.bool true), IsV (.bool true)] []
          [[], [(0, 33)], [(1, 34)], [(2, 35)], [(2, 35)], [(2, 35), (4, 37)], [(2, 35), (3, 36), (5, 38)], [(2, 35), (6, 39)]] [(0, 33), (1, 34), (2, 35), (3, 36), (4, 37), (5, 38), (6, 39), (7, 40)] (by kernel_rfl) (by kernel_rfl) rfl ?stable ⟨?o0, ?o1, ?o2, ?o3, ?o4, ?o5, ?o6, ?o7, trivial⟩ ?fin
        case stable => exact ⟨IsV.stable _, IsV.stable _, IsV.stable _, IsV.stable _, IsV.stable _, IsV.stable _, IsV.stable _, IsV.stable _, trivial⟩
        case o0 =>
          intro vals w' hg hd
          clear hd
          simp only [putS, List.foldl_nil]
          have d1 := cell_one (block_below' hg HR.out.h1)
          clear hg
          go_simp
          exact isV_mk _ _
        case o1 =>
          intro vals w' hg hd
          have h0 : vals 0 = .int .i64 most := hd.1
          clear hd
          simp only [putS, List.foldl_nil, List.foldl_cons, Act.put, List.setIfInBounds_toArray, List.set_cons_zero, List.set_cons_succ, h0]
          clear hg h0
          go_simp
          try go_bits
          exact isV_mk _ _
        case o2 =>
          intro vals w' hg hd
          have h1 : vals 1 = .bool true := hd.1
          clear hd
          simp only [putS, List.foldl_nil, List.foldl_cons, Act.put, List.setIfInBounds_toArray, List.set_cons_zero, List.set_cons_succ, h1]
          clear hg h1
          go_simp
          try go_bits
          exact isV_mk _ _
        case o3 =>
          intro vals w' hg hd
          have h2 : vals 2 = .bool true := hd.1
          clear hd
          simp only [putS, List.foldl_nil, List.foldl_cons, Act.put, List.setIfInBounds_toArray, List.set_cons_zero, List.set_cons_succ, h2]
          have d1 := cell_one (block_below' hg HR.out.h1)
          clear hg h2
          go_simp
          exact isV_mk _ _
        case o4 =>
          intro vals w' hg hd
          have h2 : vals 2 = .bool true := hd.1
          clear hd
          simp only [putS, List.foldl_nil, List.foldl_cons, Act.put, List.setIfInBounds_toArray, List.set_cons_zero, List.set_cons_succ, h2]
          exact one_load_row (by rfl) _ _ rfl _ rfl _ _ _ _ (block_below' hg HR.out.h3) Try.underlying29 rfl (i29 _) (isV_mk _ _)
        case o5 =>
          intro vals w' hg hd
          have h2 : vals 2 = .bool true := hd.1
          have h4 : vals 4 = .agg (BV (bit s)) := hd.2.1
          clear hd
          simp only [putS, List.foldl_nil, List.foldl_cons, Act.put, List.setIfInBounds_toArray, List.set_cons_zero, List.set_cons_succ, h2, h4]
          clear hg h2 h4
          go_simp
          exact (refLen_c (bit s) w').mono fun e w2 ⟨he, hb⟩ => ⟨_, he, hb, congrArg (fun n : Nat => Value.int .i64 n) HC.out⟩
        case o6 =>
          intro vals w' hg hd
          have h2 : vals 2 = .bool true := hd.1
          have h3 : vals 3 = .int .i64 most := hd.2.1
          have h5 : vals 5 = .int .i64 (c : Nat) := hd.2.2.1
          clear hd
          simp only [putS, List.foldl_nil, List.foldl_cons, Act.put, List.setIfInBounds_toArray, List.set_cons_zero, List.set_cons_succ, h2, h3, h5]
          have hdd : decide (most < (c : Int)) = true := by simp; omega
          clear hg h2 h3 h5
          go_simp
          first | exact isV_mk _ _ | exact congrArg Value.bool hdd
        case o7 =>
          intro vals w' hg hd
          have h2 : vals 2 = .bool true := hd.1
          have h6 : vals 6 = .bool true := hd.2.1
          clear hd
          simp only [putS, List.foldl_nil, List.foldl_cons, Act.put, List.setIfInBounds_toArray, List.set_cons_zero, List.set_cons_succ, h2, h6]
          clear hg h2 h6
          go_simp
          try go_bits
          exact isV_mk _ _
        case fin =>
          intro vals w' hg hd hfresh
          have h0 : vals 0 = .int .i64 most := hd.1
          have h1 : vals 1 = .bool true := hd.2.1
          have h2 : vals 2 = .bool true := hd.2.2.1
          have h3 : vals 3 = .int .i64 most := hd.2.2.2.1
          have h4 : vals 4 = .agg (BV (bit s)) := hd.2.2.2.2.1
          have h5 : vals 5 = .int .i64 (c : Nat) := hd.2.2.2.2.2.1
          have h6 : vals 6 = .bool true := hd.2.2.2.2.2.2.1
          have h7 : vals 7 = .bool true := hd.2.2.2.2.2.2.2.1
          clear hd
          simp only [putS, List.foldl_nil, List.foldl_cons, Act.put, List.setIfInBounds_toArray, List.set_cons_zero, List.set_cons_succ, List.drop_succ_cons, List.drop_zero, h0, h1, h2, h3, h4, h5, h6, h7]
          have HR := Lib.hid (HR.out.grew hg)
          have HKK := Lib.hid (block_below' hg HKK.out)
          clear hg hfresh h0 h1 h2 h3 h4 h5 h6 h7
          have d1 := cell_one HR.out.h1
          have d5 := cell_one HR.out.h5
          obtain ⟨r1, h2⟩ := HR.out.h2
          have d2 := cell_one h2
          have f2 := frozen_of_row _ (B + 1 + 1) 0 _ _ h2
          have HN := Lib.hid (HR.out.done h2 hlt3)
          have HKK := Lib.hid ((heap_setCell_other _ ⟨B + 1 + 1, 0, none⟩ _ (.bool true) (by simp; omega)).trans HKK.out)
          clear h2
          go_wp2_with fail
          refine all_end hlt3 (by omega) HB.out HN.out HKK.out rfl
end Go.Proofs.Ytaagfmpolcpimaa
