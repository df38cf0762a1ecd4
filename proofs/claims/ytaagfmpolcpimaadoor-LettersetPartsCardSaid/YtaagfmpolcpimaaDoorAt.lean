/-
  The walk of letterset's Atoms: what it returns. Conditions: a row of sets of which no step makes more than 256 parts, the library's table as its text lays it.
-/
import Derived.Test.YtaagfmpolcpimaaDoorRa
import Derived.Test.YtaagfmpolcpimaaDoorSc
import Derived.Deep.MidRow
namespace Go.Proofs.YtaagfmpolcpimaaDoor
open Go.RowKit
attribute [local go_sem] OneStep growAt growUpon
set_option maxHeartbeats 4000000
set_option maxRecDepth 100000
set_option linter.unusedSimpArgs false
set_option linter.unusedVariables false

/-! ### what the loops compute -/
def mt (p s : LW) : LW := ⟨andW p.1 s.1, andW_W64 p.2 _⟩
def mn (p s : LW) : LW := ⟨subW p.1 s.1, subW_W64 p.2 _⟩
def PP (p s : LW) : Nat → LW
  | 0 => mt p s
  | _ => mn p s
/-- the first j pieces, the empty ones left out -/
def pcTo (p s : LW) : Nat → List LW
  | 0 => []
  | j + 1 => pcTo p s j ++ (if 0 < cnt (bit (PP p s j).1) 256 then [PP p s j] else [])
def pc (p s : LW) : List LW := pcTo p s 2
theorem pcTo_two (p s : LW) : pcTo p s 2 = pc p s := rfl
theorem pcTo_yes {p s : LW} {j : Nat} (h : 0 < cnt (bit (PP p s j).1) 256) : pcTo p s (j + 1) = pcTo p s j ++ [PP p s j] := by rw [pcTo, if_pos h]
theorem pcTo_no {p s : LW} {j : Nat} (h : ¬ 0 < cnt (bit (PP p s j).1) 256) : pcTo p s (j + 1) = pcTo p s j := by rw [pcTo, if_neg h, List.append_nil]
theorem pcTo_len (p s : LW) (j : Nat) : (pcTo p s j).length ≤ j := by
  induction j with
  | zero => exact Nat.le_refl _
  | succ j ih =>
    rw [pcTo, List.length_append]
    split
    · simp; omega
    · simp; omega
/-- the pieces of the first k parts -/
def nx (L : List LW) (s : LW) (k : Nat) : List LW := (L.take k).flatMap fun p => pc p s
def stp (s : LW) (L : List LW) : List LW := L.flatMap fun p => pc p s
theorem nx_zero (L : List LW) (s : LW) : nx L s 0 = [] := rfl
theorem nx_all (L : List LW) (s : LW) : nx L s L.length = stp s L := by simp [nx, stp]
theorem nx_succ {L : List LW} {s p : LW} {k : Nat} (h : L[k]? = some p) : nx L s (k + 1) = nx L s k ++ pc p s := by
  obtain ⟨h1, h2⟩ := List.getElem?_eq_some_iff.1 h
  unfold nx
  rw [List.take_succ_eq_append_getElem h1, List.flatMap_append, h2]
  simp
theorem nx_len {L : List LW} {s : LW} {k j : Nat} (hk : k ≤ L.length) (hj : j ≤ 2) (hn : L.length ≤ 256) (p : LW) : (nx L s k ++ pcTo p s j).length ≤ 1000 := by
  have h1 : ∀ k, (nx L s k).length ≤ 2 * k := by
    intro k
    induction k with
    | zero => simp [nx]
    | succ k ih =>
      cases h : L[k]? with
      | none =>
        have : L.length ≤ k := List.getElem?_eq_none_iff.1 h
        have e : nx L s (k + 1) = nx L s k := by unfold nx; rw [List.take_of_length_le (by omega), List.take_of_length_le this]
        rw [e]; omega
      | some q => rw [nx_succ h, List.length_append]; have := pcTo_len q s 2; unfold pc; omega
  have := h1 k
  have := pcTo_len p s j
  rw [List.length_append]
  omega
def full : LW := ⟨btw 0 256, btw_W64 _ _⟩
/-- the parts that the first sets make -/
def parts (S : List LW) : List LW := S.foldl (fun L s => stp s L) [full]
theorem parts_succ {S : List LW} {s : LW} {i : Nat} (h : S[i]? = some s) : parts (S.take (i + 1)) = stp s (parts (S.take i)) := by
  obtain ⟨h1, h2⟩ := List.getElem?_eq_some_iff.1 h
  unfold parts
  rw [List.take_succ_eq_append_getElem h1, List.foldl_append, h2]
  rfl
/-- both pieces, by value -/
def PV (a b : Nat → Nat) : Array Value := #[.int .u64 (a 0), .int .u64 (a 1), .int .u64 (a 2), .int .u64 (a 3), .int .u64 (b 0), .int .u64 (b 1), .int .u64 (b 2), .int .u64 (b 3)]
theorem build36_lit (a0 a1 a2 a3 b0 b1 b2 b3 : Int) (w : World) : (Instr.build 36 #[(0, .agg #[.int .u64 a0, .int .u64 a1, .int .u64 a2, .int .u64 a3]), (1, .agg #[.int .u64 b0, .int .u64 b1, .int .u64 b2, .int .u64 b3])]).run Tryd.prog w = .ok (.agg #[.int .u64 a0, .int .u64 a1, .int .u64 a2, .int .u64 a3, .int .u64 b0, .int .u64 b1, .int .u64 b2, .int .u64 b3]) w :=
  run_build w 36 _ _ (by kernel_rfl)
theorem build36 (a b : Nat → Nat) (w : World) : (Instr.build 36 #[(0, .agg (AV a)), (1, .agg (AV b))]).run Tryd.prog w = .ok (.agg (PV a b)) w := by
  rw [AV_eq, AV_eq]; exact build36_lit _ _ _ _ _ _ _ _ w
theorem index36_0 (a0 a1 a2 a3 b0 b1 b2 b3 : Int) (w : World) : (Instr.index 36 (.agg #[.int .u64 a0, .int .u64 a1, .int .u64 a2, .int .u64 a3, .int .u64 b0, .int .u64 b1, .int .u64 b2, .int .u64 b3]) (.int .i64 0)).run Tryd.prog w = .ok (.agg #[.int .u64 a0, .int .u64 a1, .int .u64 a2, .int .u64 a3]) w := by kernel_rfl
theorem index36_1 (a0 a1 a2 a3 b0 b1 b2 b3 : Int) (w : World) : (Instr.index 36 (.agg #[.int .u64 a0, .int .u64 a1, .int .u64 a2, .int .u64 a3, .int .u64 b0, .int .u64 b1, .int .u64 b2, .int .u64 b3]) (.int .i64 1)).run Tryd.prog w = .ok (.agg #[.int .u64 b0, .int .u64 b1, .int .u64 b2, .int .u64 b3]) w := by kernel_rfl
theorem index36 (p s : LW) (j : Nat) (hj : j < 2) (w : World) : (Instr.index 36 (.agg (PV (andW p.1 s.1) (subW p.1 s.1))) (.int .i64 j)).run Tryd.prog w = .ok (.agg (AV (PP p s j).1)) w := by
  have : j = 0 ∨ j = 1 := by omega
  rcases this with rfl | rfl
  · rw [AV_eq]; exact index36_0 _ _ _ _ _ _ _ _ w
  · rw [AV_eq]; exact index36_1 _ _ _ _ _ _ _ _ w
theorem one_build {P : Program} {ops : Array Oper} {o : Oper} {a : Act} {w : World} {R : Value → World → Prop} (hgd : Region.wanted o (yielded ops a.tmps) = true) (t : TypeId) (x y : Operand) (ho : o.op = .build t #[(0, x), (1, y)])
    (ps : Array (Nat × Value)) (hx : #[(0, a.eval x), (1, a.eval y)] = ps) (v : Value) (hr : (Instr.build t ps).run P w = .ok v w) (h : R v w) : OneStep P ops o a w R false := by
  unfold OneStep
  rw [if_pos hgd]
  unfold growAt execOp
  simp only [ho, List.map_toArray, List.map_cons, List.map_nil, hx, hr, Sem.run_bind, Sem.run_pure, Result.andThen_ok]
  exact ⟨Below.refl _ _, h, fun h => by cases h⟩
attribute [irreducible] PV PP

/-! ### rows of sets -/
abbrev ownsL (w : World) (B : Nat) (v : Value) (L : List LW) : Prop := w.ownsRow B 26 4 v L.length (flatG enc4 L)
theorem info26 : (Tryd.prog.info? 26).map (fun i => (i.zero, i.size, i.bytes)) = some (some (.agg (AV fun _ => 0)), 4, 32) := by rw [AV_eq]; kernel_rfl
theorem i26_4 : (Tryd.prog.info? 26).map (·.size) = some 4 := by have := i26 fun _ => 0; rwa [AV_size] at this
theorem ownsL_grew {w w' : World} {B : Nat} {v : Value} {L : List LW} (h : ownsL w B v L) (hg : Below w.heap.size w w') : ownsL w' B v L :=
  h.kept (row := none) ⟨hg.os, hg.tape, hg.output, hg.size, fun k hk _ => hg.block k hk⟩ (by cases v.ownBlock <;> simp)
theorem ownsL_mono {w : World} {B B' : Nat} {v : Value} {L : List LW} (h : ownsL w B' v L) (hB : B ≤ B') : ownsL w B v L :=
  ⟨h.1, h.2.imp id fun ⟨g, cap, cur, h1, h2, h3⟩ => ⟨g, cap, cur, h1, Nat.le_trans hB h2, h3⟩⟩
/-- the sets lie in the row, one behind the other -/
def Rd4 (w : World) (v : Value) (S : List LW) : Prop :=
  (S = [] ∧ ∃ a cap, v = .slice a 0 cap) ∨ ∃ b o cap, v = .slice (some ⟨b, o, none⟩) S.length cap ∧ b < w.heap.size ∧ ∀ i x, S[i]? = some x → w.rangeAt b (o + i * 4) (enc4 x)
theorem Rd4_below {w w' : World} {v : Value} {S : List LW} (h : Rd4 w v S) (hb : Below w.heap.size w w') : Rd4 w' v S := by
  rcases h with h | ⟨b, o, cap, rfl, hg, hc⟩
  · exact .inl h
  · exact .inr ⟨b, o, cap, rfl, by have := hb.size; omega, fun i x hi j u hj => (hb.cell (p := ⟨b, o + i * 4 + j, none⟩) hg).trans (hc i x hi j u hj)⟩
theorem own_range {w : World} {B g cap : Nat} {L : List LW} (h : ownsL w B (.slice (some ⟨g, 0, none⟩) L.length cap) L) (i : Nat) (x : LW) (hi : L[i]? = some x) : w.rangeAt g (i * 4) (enc4 x) := by
  intro j u hj
  have hj4 : j < 4 := by have := (List.getElem?_eq_some_iff.1 hj).1; rwa [enc4_len] at this
  have hi' := (List.getElem?_eq_some_iff.1 hi).1
  rw [h.cellAt (i * 4 + j) (by have := Nat.mul_le_mul_right 4 (show i + 1 ≤ L.length from hi'); omega), flatG_get enc4 4 enc4_len L i x hi j hj4]
  exact hj
theorem own_shape {w : World} {B : Nat} {v : Value} {L : List LW} (h : ownsL w B v L) (hL : 0 < L.length) : ∃ g cap, v = .slice (some ⟨g, 0, none⟩) L.length cap ∧ B ≤ g ∧ g < w.heap.size := by
  obtain ⟨hl, (⟨rfl, hn⟩ | ⟨g, cap, cur, rfl, hb, hc, hx⟩)⟩ := h
  · omega
  · exact ⟨g, cap, rfl, hb, lt_of_block hc⟩
theorem flatK_eq (L : List LW) : (Sort.flatK enc4 4 L.toArray).toList = flatG enc4 L := by
  apply List.ext_getElem?
  intro t
  by_cases h : t < L.length * 4
  · have h4 : t / 4 < L.length := by omega
    have hx : L[t / 4]? = some L[t / 4] := List.getElem?_eq_getElem h4
    have hf := flatG_get enc4 4 enc4_len L (t / 4) _ hx (t % 4) (by omega)
    rw [show t / 4 * 4 + t % 4 = t by omega] at hf
    rw [hf]
    have hs : t < (Sort.flatK enc4 4 L.toArray).size := by simp; exact h
    have h1 := Sort.get_flatK enc4 4 L.toArray t (by simpa using h)
    have hl : t % 4 < (enc4 L[t / 4]).length := by rw [enc4_len]; omega
    rw [Array.getElem?_toList, Array.getElem?_eq_getElem hs, List.getElem?_eq_getElem hl]
    congr 1
    rw [getElem!_pos _ t hs] at h1
    rw [h1]
    simp [h4, hl]
  · rw [List.getElem?_eq_none (by simp; omega), List.getElem?_eq_none (by rw [flatG_len enc4 4 enc4_len]; omega)]
theorem holds_own {w : World} {B g cap : Nat} {L : List LW} (h : ownsL w B (.slice (some ⟨g, 0, none⟩) L.length cap) L) : Sort.HoldsK enc4 4 w g 0 L.toArray := by
  intro j hj
  have hj4 : j < L.length * 4 := by simpa using hj
  refine ⟨?_, h.frozenAt _⟩
  rw [Nat.zero_add, h.cellAt j hj4, ← flatK_eq, Array.getElem?_toList, Array.getElem?_eq_getElem hj, getElem!_pos _ j hj]
  rfl
theorem sorted_out {w : World} {g cap : Nat} {L : List LW} {d' : Array LW} (hp : Sort.PermIn 0 L.toArray.size L.toArray d') (hs : Sort.SortedIn (ltOf cf) 0 L.toArray.size d') (hh : Sort.HoldsK enc4 4 w g 0 d') (hg : g < w.heap.size) :
    ∃ M, M.Perm L ∧ (∀ (i j : Nat) (x y : LW), i < j → M[i]? = some x → M[j]? = some y → least x.1 ≤ least y.1) ∧ Rd4 w (.slice (some ⟨g, 0, none⟩) L.toArray.size cap) M := by
  obtain ⟨h1, _, h2⟩ := hp
  refine ⟨d'.toList, ?_, ?_, .inr ⟨g, 0, cap, by simp [h1], hg, ?_⟩⟩
  · rw [← h1] at h2
    rw [Array.extract_size] at h2
    rw [h1, Array.extract_size] at h2
    exact h2
  · intro i j x y hij hx hy
    have hi := (List.getElem?_eq_some_iff.1 hx)
    have hj := (List.getElem?_eq_some_iff.1 hy)
    have := hs i j (Nat.zero_le _) hij (by rw [← h1]; simpa using hj.1)
    rw [lt_cf] at this
    have e1 : d'[i]! = x := by rw [getElem!_pos d' i (by simpa using hi.1), ← hi.2]; simp
    have e2 : d'[j]! = y := by rw [getElem!_pos d' j (by simpa using hj.1), ← hj.2]; simp
    rw [e1, e2] at this
    simp at this
    omega
  · intro i x hi j u hj
    have hi' := (List.getElem?_eq_some_iff.1 hi)
    have hj4 : j < 4 := by have := (List.getElem?_eq_some_iff.1 hj).1; rwa [enc4_len] at this
    have hsz : i < d'.size := by simpa using hi'.1
    have := (hh (i * 4 + j) (by simp; omega)).1
    rw [Sort.get_flatK enc4 4 d' (i * 4 + j) (by omega)] at this
    have e1 : d'[(i * 4 + j) / 4]! = x := by rw [show (i * 4 + j) / 4 = i by omega, getElem!_pos d' i hsz, ← hi'.2]; simp
    rw [e1, show (i * 4 + j) % 4 = j by omega] at this
    rw [show 0 + i * 4 + j = 0 + (i * 4 + j) by omega, this]
    have hl : j < (enc4 x).length := by rw [enc4_len]; exact hj4
    rw [List.getElem?_eq_getElem hl] at hj
    cases hj
    simp [hl]
/-- what the inner loops of Atoms keep -/
structure Mt (w0 : World) (B : Nat) (v3 : Value) (L : List LW) (S : Nat) (s : Nat → Nat) (B2 : Nat) (v6 : Value) (N : List LW) (wr : World) : Prop where
  own3 : ownsL wr B v3 L
  lt3 : ∀ k, v3.ownBlock = some k → k < B2
  own6 : ownsL wr B2 v6 N
  set : wr.heap[S]? = some (.cells (AV s) 26)
  ltS : S < B2
  below : Below B w0 wr
  le : B ≤ B2
  size : B2 ≤ wr.heap.size
theorem Mt.grew {w0 : World} {B : Nat} {v3 : Value} {L : List LW} {S : Nat} {s : Nat → Nat} {B2 : Nat} {v6 : Value} {M : List LW} {w w' : World} (h : Mt w0 B v3 L S s B2 v6 M w) (hg : Below w.heap.size w w') : Mt w0 B v3 L S s B2 v6 M w' :=
  ⟨ownsL_grew h.own3 hg, h.lt3, ownsL_grew h.own6 hg, block_below' hg h.set, h.ltS, h.below.trans (hg.mono (by have := h.le; have := h.size; omega)), h.le, by have := h.size; have := hg.size; omega⟩
theorem Mt.added {w0 : World} {B : Nat} {v3 : Value} {L : List LW} {S : Nat} {s : Nat → Nat} {B2 : Nat} {v6 v' : Value} {M : List LW} {w wm w1 : World} (h : Mt w0 B v3 L S s B2 v6 M w) (x : LW) (hg : Below w.heap.size w wm) (hg1 : wm.grownBy w1 v6.ownBlock)
    (h1 : w1.ownsRow B2 26 4 v' (M.length + 1) (flatG enc4 M ++ enc4 x)) : Mt w0 B v3 L S s B2 v' (M ++ [x]) w1 := by
  have hm := h.grew hg
  have hlt : ∀ k, v6.ownBlock = some k → B2 ≤ k := fun k hk => (h.own6.lt k hk).1
  refine ⟨hm.own3.kept hg1 ?_, h.lt3, ?_, (hg1.block S (by have := hm.ltS; have := hm.size; omega) (fun e => by have := hlt S e.symm; have := h.ltS; omega)).trans hm.set, h.ltS, hm.below.grown hg1 (by have := hm.le; have := hm.size; omega) (fun k hk => Nat.le_trans h.le (hlt k hk)), h.le, by have := hm.size; have := hg1.size; omega⟩
  · cases h3 : v3.ownBlock with
    | none => exact .inl rfl
    | some k => exact .inr fun e => by have := hlt k e.symm; have := h.lt3 k h3; omega
  · show w1.ownsRow B2 26 4 v' (M ++ [x]).length (flatG enc4 (M ++ [x]))
    rw [flatG_snoc, List.length_append]
    exact h1

theorem atoms_c (S0 : List LW) (hS : S0.length ≤ 1000) (HPL : Hid (∀ i, (parts (S0.take i)).length ≤ 256 ∧ 0 < (parts (S0.take i)).length)) (v0 : Value) (w : World) (HR : Hid (Rd4 w v0 S0)) (HT0 : Hid (Tab w)) (h00 : 0 < w.heap.size) :
    Calls Tryd.prog 6 #[v0] w fun e w' => ∃ v L, e = .returned v ∧ L.Perm (parts S0) ∧ (∀ (i j : Nat) (x y : LW), i < j → L[i]? = some x → L[j]? = some y → least x.1 ≤ least y.1) ∧ Rd4 w' v L ∧ (∀ k, v.ownBlock = some k → w.heap.size ≤ k) ∧ Below w.heap.size w w' := by
  obtain ⟨i0, hi, hz0, hz1, hz2⟩ := info_parts info26
  obtain ⟨B, hBB⟩ : ∃ B, B = w.heap.size := ⟨_, rfl⟩
  have HBB := Lib.hid hBB
  clear hBB
  have shape : ∃ ad cap, v0 = .slice ad S0.length cap := by
    rcases HR.out with ⟨rfl, a, cap, rfl⟩ | ⟨b, o, cap, rfl, _⟩
    · exact ⟨a, cap, rfl⟩
    · exact ⟨_, cap, rfl⟩
  obtain ⟨ad, cap0, rfl⟩ := shape
  go_enter Tryd.func6, Tryd.ntmps6
  go_wp2_with fail
  refine (between_c 0 255 (by omega) (by omega) _).mono ?_
  rintro e w1 ⟨rfl, hb1⟩
  have HE : Hid (Grew w w1) := Lib.hid hb1
  clear hb1
  go_wp2_with (first | (refine wpList_slice_one rfl 22 26 _ rfl _ rfl Tryd.underlying22 (i26 _) (by rw [hi]; simp [hz0]) (by rw [AV_size]; omega) (by rw [AV_size]; omega) ?_; simp only [Act.put, List.setIfInBounds_toArray, List.set_cons_zero, List.set_cons_succ]) | fail)
  go_loopg [3, 15] S0.length (fun g v i wr => ∃ q : Nat, q ≤ S0.length ∧ g = S0.length - q ∧ i = .int .i64 q ∧ Hid (ownsL wr B v (parts (S0.take q))) ∧ Hid (Below B w wr))
  case atStart =>
    refine ⟨0, by omega, by omega, rfl, Lib.hid ?_, Lib.hid ?_⟩
    · show (_ : World).ownsRow B 26 4 _ 1 (flatG enc4 [full])
      have h := World.ownsRow_lit (e := 26) (base := B) (size := 4) w1 (AV (btw 0 256)) 1 (by have := HE.out.size; have := HBB.out; omega) (by unfold maxLen; omega) (by rw [AV_size])
      have e : flatG enc4 [full] = (AV (btw 0 256)).toList := by simp [flatG, enc4, full]
      rw [e]
      exact h
    · rw [HBB.out]; exact HE.out.trans (grew_alloc _ _)
  case round =>
    obtain ⟨q, hq, rfl, rfl, HO, HW⟩ := hrel
    clear HE
    by_cases hlt : q < S0.length
    · obtain ⟨s, hs⟩ : ∃ s, S0[q]? = some s := ⟨_, List.getElem?_eq_getElem hlt⟩
      rcases HR.out with ⟨h, _⟩ | ⟨b, o, cap, hv, hbl, hc⟩
      · rw [h] at hlt; simp at hlt
      · cases hv
        have HRG : Hid (wr.rangeAt b (o + q * 4) (enc4 s)) := Lib.hid fun j u hj => (HW.out.cell (p := ⟨b, o + q * 4 + j, none⟩) (by rw [HBB.out]; exact hbl)).trans (hc q s hs j u hj)
        clear hc
        have HSQ := Lib.hid hs
        clear hs
        obtain ⟨L, hL⟩ : ∃ L, L = parts (S0.take q) := ⟨_, rfl⟩
        rw [← hL] at HO
        have hln : Hid (L.length ≤ 256) := Lib.hid (by rw [hL]; exact (HPL.out q).1)
        have hln2 := hln.out
        have hlpos : 0 < L.length := by rw [hL]; exact (HPL.out q).2
        have HLL := Lib.hid hL
        clear hL
        obtain ⟨g3, cap3, hv3, hBg, hg3⟩ := own_shape HO.out hlpos
        subst hv3
        go_wp2_with (first | (refine wpList_load_mid rfl 26 _ rfl _ _ rfl _ _ HRG.out Tryd.underlying26 rfl (by rw [enc4_len]; exact i26_4) ?_; simp only [Act.put, List.setIfInBounds_toArray, List.set_cons_zero, List.set_cons_succ, enc4_arr]) | (refine wpList_alloc_row rfl 26 rfl _ z26 ?_; simp only [Act.put, List.setIfInBounds_toArray, List.set_cons_zero, List.set_cons_succ]) | (refine wpList_store_row rfl 26 _ _ rfl _ rfl _ rfl _ _ (heap_at _ _ _ rfl) (i26 _) (by simp only [AV_size]) (AV_one _) ?_; rw [setRow_alloc _ _ _ _ _ rfl]; simp only [Act.put, List.setIfInBounds_toArray, List.set_cons_zero, List.set_cons_succ]) | fail)
        obtain ⟨S, hS1⟩ : ∃ S, S = wr.heap.size := ⟨_, rfl⟩
        have HM : Hid (Mt w B (.slice (some ⟨g3, 0, none⟩) L.length cap3) L S s.1 (S + 1) (.slice none 0 0) (nx L s 0) (wr.alloc (.cells (AV s.1) 26))) := Lib.hid
          ⟨HO.out.alloc _, fun k hk => by (cases hk; show g3 < S + 1; omega), World.ownsRow_nil _ _ _ _, heap_at _ _ _ hS1, Nat.lt_succ_self _, HW.out.trans ((grew_alloc _ _).mono (by have := HW.out.size; omega)), by omega, by simp; omega⟩
        rw [← hS1]
        generalize wr.alloc (.cells (AV s.1) 26) = w3 at HM ⊢
        clear hS1 HO HW HRG
        obtain ⟨B2, hB2⟩ : ∃ B2, B2 = S + 1 := ⟨_, rfl⟩
        rw [← hB2] at HM
        clear hB2
        try rw [show decide ((q : Int) < (S0.length : Int)) = true by simp; omega]
        go_loopg [6, 21] L.length (fun g v i wr => ∃ k : Nat, k ≤ L.length ∧ g = L.length - k ∧ i = .int .i64 k ∧ Hid (Mt w B (.slice (some ⟨g3, 0, none⟩) L.length cap3) L S s.1 B2 v (nx L s k) wr))
        case atStart => exact ⟨0, by omega, by omega, rfl, HM⟩
        case round =>
          clear HM
          obtain ⟨k, hk, rfl, rfl, HM⟩ := hrel
          by_cases hkl : k < L.length
          · obtain ⟨p, hp⟩ : ∃ p, L[k]? = some p := ⟨_, List.getElem?_eq_getElem hkl⟩
            have HRP : Hid (wr.rangeAt g3 (k * 4) (enc4 p)) := Lib.hid (own_range HM.out.own3 k p hp)
            have hk2 := Lib.hid hp
            clear hp
            go_wp2_with (first | (refine wpList_load_mid rfl 26 _ rfl _ _ rfl _ _ HRP.out Tryd.underlying26 rfl (by rw [enc4_len]; exact i26_4) ?_; simp only [Act.put, List.setIfInBounds_toArray, List.set_cons_zero, List.set_cons_succ, enc4_arr]) | (refine wpList_alloc_row rfl 26 rfl _ z26 ?_; simp only [Act.put, List.setIfInBounds_toArray, List.set_cons_zero, List.set_cons_succ]) | (refine wpList_store_row rfl 26 _ _ rfl _ rfl _ rfl _ _ (heap_at _ _ _ rfl) (i26 _) (by simp only [AV_size]) (AV_one _) ?_; rw [setRow_alloc _ _ _ _ _ rfl]; simp only [Act.put, List.setIfInBounds_toArray, List.set_cons_zero, List.set_cons_succ]) | fail)
            obtain ⟨Pb, hPb⟩ : ∃ Pb, Pb = wr.heap.size := ⟨_, rfl⟩
            have HP := Lib.hid (heap_at wr (.cells (AV p.1) 26) Pb hPb)
            have HM := Lib.hid (HM.out.grew (grew_alloc wr (.cells (AV p.1) 26)))
            rw [← hPb]
            generalize wr.alloc (.cells (AV p.1) 26) = w5 at HP HM ⊢
            clear hPb HRP
            refine wp_region_grows 8 [IsV (.agg (AV p.1)), IsV (.agg (AV s.1)), IsV (.agg (AV (andW p.1 s.1))), IsV (.agg (AV p.1)), IsV (.agg (AV s.1)), IsV (.agg (AV (subW p.1 s.1))), IsV (.agg (PV (andW p.1 s.1) (subW p.1 s.1))), IsV (.int .i64 0)] []
              [[], [], [(0, 25), (1, 26)], [], [], [(3, 28), (4, 29)], [(2, 27), (5, 30)], []] [(0, 25), (1, 26), (2, 27), (3, 28), (4, 29), (5, 30), (6, 31), (7, 32)] (by kernel_rfl) (by kernel_rfl) rfl ?stable ⟨?o0, ?o1, ?o2, ?o3, ?o4, ?o5, ?o6, ?o7, trivial⟩ ?fin
            case stable => exact ⟨IsV.stable _, IsV.stable _, IsV.stable _, IsV.stable _, IsV.stable _, IsV.stable _, IsV.stable _, IsV.stable _, trivial⟩
            case o0 =>
              intro vals w' hg hd
              clear hd
              simp only [putS, List.foldl_nil]
              exact one_load_row (by rfl) _ _ rfl _ rfl _ _ _ _ (block_below' hg HP.out) Tryd.underlying26 rfl (i26 _) (isV_mk _ _)
            case o1 =>
              intro vals w' hg hd
              clear hd
              simp only [putS, List.foldl_nil]
              exact one_load_row (by rfl) _ _ rfl _ rfl _ _ _ _ (block_below' hg HM.out.set) Tryd.underlying26 rfl (i26 _) (isV_mk _ _)
            case o2 =>
              intro vals w' hg hd
              have h0 : vals 0 = .agg (AV p.1) := hd.1
              have h1 : vals 1 = .agg (AV s.1) := hd.2.1
              clear hd
              simp only [putS, List.foldl_nil, List.foldl_cons, Act.put, List.setIfInBounds_toArray, List.set_cons_zero, List.set_cons_succ, h0, h1]
              clear hg h0 h1
              go_simp
              exact (meet_c p.1 s.1 p.2 s.2 w').mono fun e w2 ⟨he, hb⟩ => ⟨_, he, hb, isV_mk _ _⟩
            case o3 =>
              intro vals w' hg hd
              clear hd
              simp only [putS, List.foldl_nil]
              exact one_load_row (by rfl) _ _ rfl _ rfl _ _ _ _ (block_below' hg HP.out) Tryd.underlying26 rfl (i26 _) (isV_mk _ _)
            case o4 =>
              intro vals w' hg hd
              clear hd
              simp only [putS, List.foldl_nil]
              exact one_load_row (by rfl) _ _ rfl _ rfl _ _ _ _ (block_below' hg HM.out.set) Tryd.underlying26 rfl (i26 _) (isV_mk _ _)
            case o5 =>
              intro vals w' hg hd
              have h3 : vals 3 = .agg (AV p.1) := hd.1
              have h4 : vals 4 = .agg (AV s.1) := hd.2.1
              clear hd
              simp only [putS, List.foldl_nil, List.foldl_cons, Act.put, List.setIfInBounds_toArray, List.set_cons_zero, List.set_cons_succ, h3, h4]
              clear hg h3 h4
              go_simp
              exact (minus_c p.1 s.1 p.2 s.2 w').mono fun e w2 ⟨he, hb⟩ => ⟨_, he, hb, isV_mk _ _⟩
            case o6 =>
              intro vals w' hg hd
              have h2 : vals 2 = .agg (AV (andW p.1 s.1)) := hd.1
              have h5 : vals 5 = .agg (AV (subW p.1 s.1)) := hd.2.1
              clear hd
              simp only [putS, List.foldl_nil, List.foldl_cons, Act.put, List.setIfInBounds_toArray, List.set_cons_zero, List.set_cons_succ, h2, h5]
              exact one_build (by rfl) 36 _ _ rfl _ rfl _ (build36 _ _ _) (isV_mk _ _)
            case o7 =>
              intro vals w' hg hd
              clear hd
              simp only [putS, List.foldl_nil]
              clear hg
              go_simp
              try go_bits
              exact isV_mk _ _
            case fin =>
              intro vals w' hg hd hfresh
              have h0 : vals 0 = .agg (AV p.1) := hd.1
              have h1 : vals 1 = .agg (AV s.1) := hd.2.1
              have h2 : vals 2 = .agg (AV (andW p.1 s.1)) := hd.2.2.1
              have h3 : vals 3 = .agg (AV p.1) := hd.2.2.2.1
              have h4 : vals 4 = .agg (AV s.1) := hd.2.2.2.2.1
              have h5 : vals 5 = .agg (AV (subW p.1 s.1)) := hd.2.2.2.2.2.1
              have h6 : vals 6 = .agg (PV (andW p.1 s.1) (subW p.1 s.1)) := hd.2.2.2.2.2.2.1
              have h7 : vals 7 = .int .i64 0 := hd.2.2.2.2.2.2.2.1
              clear hd
              simp only [putS, List.foldl_nil, List.foldl_cons, Act.put, List.setIfInBounds_toArray, List.set_cons_zero, List.set_cons_succ, List.drop_succ_cons, List.drop_zero, h0, h1, h2, h3, h4, h5, h6, h7]
              have HM := Lib.hid (HM.out.grew hg)
              clear hg hfresh HP h0 h1 h2 h3 h4 h5 h6 h7
              go_wp2_with fail
              try rw [show decide ((k : Int) < (L.length : Int)) = true by simp; omega]
              go_loopg [6, 32] 2 (fun g v j wr => ∃ j0 : Nat, j0 ≤ 2 ∧ g = 2 - j0 ∧ j = .int .i64 j0 ∧ Hid (Mt w B (.slice (some ⟨g3, 0, none⟩) L.length cap3) L S s.1 B2 v (nx L s k ++ pcTo p s j0) wr))
              case atStart => exact ⟨0, by omega, by omega, rfl, Lib.hid (by rw [show pcTo p s 0 = [] from rfl, List.append_nil]; exact HM.out)⟩
              case round =>
                clear HM
                obtain ⟨j, hj, rfl, rfl, HM⟩ := hrel
                by_cases hj2 : j < 2
                · have hidx := fun w => index36 p s j hj2 w
                  go_wp2_with (first | (refine wpList_alloc_row rfl 26 rfl _ z26 ?_; simp only [Act.put, List.setIfInBounds_toArray, List.set_cons_zero, List.set_cons_succ]) | (refine wpList_store_row rfl 26 _ _ rfl _ rfl _ rfl _ _ (heap_at _ _ _ rfl) (i26 _) (by simp only [AV_size]) (AV_one _) ?_; rw [setRow_alloc _ _ _ _ _ rfl]; simp only [Act.put, List.setIfInBounds_toArray, List.set_cons_zero, List.set_cons_succ]) | (refine wpList_load_row rfl 26 _ rfl _ rfl _ _ _ _ (heap_at _ _ _ rfl) Tryd.underlying26 rfl (i26 _) ?_; simp only [Act.put, List.setIfInBounds_toArray, List.set_cons_zero, List.set_cons_succ]) | fail)
                  clear hidx
                  have HT := Lib.hid (heap_at wr (.cells (AV (PP p s j).1) 26) _ rfl)
                  have HM := Lib.hid (HM.out.grew (grew_alloc wr (.cells (AV (PP p s j).1) 26)))
                  obtain ⟨T, hT⟩ : ∃ T, T = wr.heap.size := ⟨_, rfl⟩
                  rw [← hT] at HT ⊢
                  generalize wr.alloc (.cells (AV (PP p s j).1) 26) = w6 at HT HM ⊢
                  clear hT
                  refine (len_c (PP p s j).1 (PP p s j).2 _).mono ?_
                  rintro e w7 ⟨rfl, hb7⟩
                  have HT := Lib.hid (block_below' hb7 HT.out)
                  have HM := Lib.hid (HM.out.grew hb7)
                  clear hb7
                  obtain ⟨c, hc⟩ : ∃ c, c = cnt (bit (PP p s j).1) 256 := ⟨_, rfl⟩
                  rw [← hc]
                  have hcb : c ≤ 256 := by rw [hc]; exact cnt_le _ _
                  have HC := Lib.hid hc
                  clear hc
                  by_cases hpos : 0 < c
                  · have HN : Hid (pcTo p s (j + 1) = pcTo p s j ++ [PP p s j]) := Lib.hid (pcTo_yes (by rw [← HC.out]; exact hpos))
                    have hnl : (nx L s k ++ pcTo p s j).length ≤ 1000 := nx_len hk hj hln.out p
                    have hsz := HM.out.size
                    go_wp2_with (first | (refine wpList_load_row rfl 26 _ rfl _ rfl _ _ _ _ HT.out Tryd.underlying26 rfl (i26 _) ?_; simp only [Act.put, List.setIfInBounds_toArray, List.set_cons_zero, List.set_cons_succ]) | (refine wpList_slice_one rfl 22 26 _ rfl _ rfl Tryd.underlying22 (i26 _) (by rw [hi]; simp [hz0]) (by rw [AV_size]; omega) (by rw [AV_size]; omega) ?_; simp only [Act.put, List.setIfInBounds_toArray, List.set_cons_zero, List.set_cons_succ]) | (at_builtin; refine wpList_append_own _ rfl _ _ 22 rfl B2 26 i0 (.agg (AV fun _ => 0)) 4 32 Tryd.underlying22 hi hz0 hz1 hz2 (AV_size _) (by decide) u6 (nx L s k ++ pcTo p s j).length (flatG enc4 (nx L s k ++ pcTo p s j)) rfl (HM.out.own6.alloc _) ⟨w7.heap.size, 0, none⟩ 1 1 (enc4 (PP p s j)) rfl (by rw [enc4_len]) (cells_row' (heap_at _ _ _ rfl)) (enc4_one _) (by unfold maxLen; omega) (by omega) (by simp; omega) ?_; intro v8 w8 hown8 hg8 _))
                    have HM := Lib.hid (HM.out.added (PP p s j) (grew_alloc _ _) hg8 hown8)
                    clear hown8 hg8 HT
                    go_wp2_with fail
                    go_roundg (2 - (j + 1))
                    case measure => omega
                    case rel => exact ⟨j + 1, by omega, rfl, by go_num, Lib.hid (by rw [HN.out, ← List.append_assoc]; exact HM.out)⟩
                  · have HN : Hid (pcTo p s (j + 1) = pcTo p s j) := Lib.hid (pcTo_no (by rw [← HC.out]; exact hpos))
                    have hc0 : c ≤ 0 := by omega
                    clear HT hpos
                    go_wp2_with fail
                    go_roundg (2 - (j + 1))
                    case measure => omega
                    case rel => exact ⟨j + 1, by omega, rfl, by go_num, Lib.hid (by rw [HN.out]; exact HM.out)⟩
                · have hj3 : j = 2 := by omega
                  go_wp2_with fail
                  go_roundg (L.length - (k + 1))
                  case measure => omega
                  case rel => exact ⟨k + 1, by omega, rfl, by go_num, Lib.hid (by rw [nx_succ hk2.out, ← pcTo_two, ← hj3]; exact HM.out)⟩
          · have hk3 : k = L.length := by omega
            have HO2 : Hid (ownsL wr B u6 (parts (S0.take (q + 1)))) := Lib.hid (by
              have h := ownsL_mono HM.out.own6 HM.out.le
              rw [hk3, nx_all, HLL.out, ← parts_succ HSQ.out] at h
              exact h)
            have HW2 := Lib.hid HM.out.below
            go_wp2_with fail
            go_roundg (S0.length - (q + 1))
            case measure => omega
            case rel => exact ⟨q + 1, by omega, rfl, by go_num, HO2, HW2⟩
    · have hq2 : q = S0.length := by omega
      have HO2 : Hid (ownsL wr B u3 (parts S0)) := Lib.hid (by have := HO.out; rwa [hq2, List.take_length] at this)
      have hpos : 0 < (parts S0).length := by have := (HPL.out q).2; rwa [hq2, List.take_length] at this
      have hle : (parts S0).length ≤ 256 := by have := (HPL.out q).1; rwa [hq2, List.take_length] at this
      obtain ⟨g3, cap3, hv3, hBg, hg3⟩ := own_shape HO2.out hpos
      subst hv3
      clear HO hq2
      have HH := Lib.hid (holds_own HO2.out)
      have h0g : 0 < g3 := by have := HBB.out; omega
      have HTr : Hid (Tab wr) := Lib.hid (HT0.out.below (B := B) HW.out (by rw [HBB.out]; exact h00))
      go_wp2_with fail
      have hsz : (parts S0).toArray.size = (parts S0).length := by simp
      rw [← hsz]
      refine (sort_c (parts S0).toArray g3 0 cap3 _ HTr.out h0g HH.out hg3 (by omega)).mono ?_
      rintro e w8 ⟨rfl, d', hp, hsd, hh, hbl⟩
      have HEND : Hid (∃ L, L.Perm (parts S0) ∧ (∀ (i j : Nat) (x y : LW), i < j → L[i]? = some x → L[j]? = some y → least x.1 ≤ least y.1) ∧ Rd4 w8 (.slice (some ⟨g3, 0, none⟩) (parts S0).toArray.size cap3) L) := Lib.hid (sorted_out hp hsd hh (by have := (hbl B hBg).size; have := (hbl g3 (Nat.le_refl _)).size; omega))
      have HBE := Lib.hid (HW.out.trans (hbl B hBg))
      clear hp hsd hh hbl hsz
      go_wp2_with fail
      go_ret
      obtain ⟨L, h1, h2, h3⟩ := HEND.out
      exact ⟨_, L, rfl, h1, h2, h3, fun k hk => by (cases hk; rw [← HBB.out]; exact hBg), by rw [← HBB.out]; exact HBE.out⟩
end Go.Proofs.YtaagfmpolcpimaaDoor
