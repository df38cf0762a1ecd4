/-
  A region that draws its order and makes variables into which it stores once each ('u, m := f(a), g(b)' where u, m are boxed): whatever order is drawn, each variable holds what was stored. Conditions: the Bool over the region, which the kernel decides.
-/
import Derived.Test.YtaagfmpolcpimaaGrow
namespace Go.Proofs.Ytaagfmpolcpimaa
open Go.RowKit
section
variable {P : Program} {ops : Array Oper}

/-- a variable: the operation that makes it, the one that stores into it, its zero value, what is stored, its type -/
structure VarAt where
  al : Nat
  st : Nat
  zero : Array Value
  xs : Array Value
  ty : TypeId

/-- what is owed for a variable -/
structure VarOk (P : Program) (ops : Array Oper) (a0 : Act) (p : Nat → Value → Prop) (V : VarAt) : Prop where
  alloc : ∃ o, ops[V.al]? = some o ∧ o.op = .alloc V.ty ∧ o.guard = none ∧ o.dst.isSome = true
  store : ∃ o x y, ops[V.st]? = some o ∧ o.op = .store V.ty (.tmp x) y ∧ o.guard = none ∧ o.dst = none ∧ dstAt ops V.al = some x ∧ V.al ∈ depsOf ops V.st ∧ x < a0.tmps.size ∧
    ∀ vals, (∀ i ∈ depsOf ops V.st, i ≠ V.al → p i (vals i)) → (putL ops vals (depsOf ops V.st) a0).eval y = .agg V.xs
  zero : ∀ w, (zeroValue V.ty).run P w = .ok (.agg V.zero) w
  size : (P.info? V.ty).map (·.size) = some V.xs.size
  size' : V.zero.size = V.xs.size
  one : V.xs.all (·.oneCell') = true

theorem wpAny_vars {Q : Exit → Act → World → Prop} (w0 : World) (a0 : Act) (n0 : Nat) (hn00 : n0 = w0.heap.size) (p : Nat → Value → Prop) (Vs : List VarAt) (hok : GrowOk ops ops.size)
    (hV : ∀ V ∈ Vs, VarOk P ops a0 p V) (hd1 : ∀ V ∈ Vs, ∀ U ∈ Vs, V.al = U.al → V = U) (hd2 : ∀ V ∈ Vs, ∀ U ∈ Vs, V.st = U.st → V = U) (hd3 : ∀ V ∈ Vs, ∀ U ∈ Vs, V.al ≠ U.st)
    (step : ∀ k o, ops[k]? = some o → (∀ V ∈ Vs, V.al ≠ k ∧ V.st ≠ k) → ∀ vals w, Below n0 w0 w → (∀ i ∈ depsOf ops k, (∀ V ∈ Vs, V.al ≠ i ∧ V.st ≠ i) → p i (vals i)) →
      if Region.wanted o (yielded ops (putL ops vals (depsOf ops k) a0).tmps) then growAt P o (putL ops vals (depsOf ops k) a0) w (fun v _ => p k v) else p k undef)
    (pst : ∀ V ∈ Vs, p V.al = fun _ => True) (pst' : ∀ V ∈ Vs, p V.st = fun _ => True)
    (fin : ∀ vals w, Below n0 w0 w → (∀ i, i < ops.size → p i (vals i)) → (∀ V ∈ Vs, ∃ b, vals V.al = .pointer (some ⟨b, 0, none⟩) ∧ n0 ≤ b ∧ w.heap[b]? = some (.cells V.xs V.ty)) →
      (∀ V ∈ Vs, ∀ U ∈ Vs, V ≠ U → blkOf (vals V.al) ≠ blkOf (vals U.al)) → Q .normal (putL ops vals (List.range ops.size) a0) w) :
    ∀ (d : Nat) (order : List Nat) (listed : Array Bool) (vals : Nat → Value) (w : World), d + order.length = ops.size → order.Nodup → (∀ i ∈ order, i < ops.size) → listed.size = ops.size →
      (∀ j, j < ops.size → listed[j]? = some (decide (j ∈ order))) → Below n0 w0 w → (∀ i ∈ order, p i (vals i)) →
      (∀ V ∈ Vs, V.al ∈ order → ∃ b, vals V.al = .pointer (some ⟨b, 0, none⟩) ∧ n0 ≤ b ∧ w.heap[b]? = some (.cells (if V.st ∈ order then V.xs else V.zero) V.ty)) →
      (∀ V ∈ Vs, ∀ U ∈ Vs, V.al ∈ order → U.al ∈ order → V ≠ U → blkOf (vals V.al) ≠ blkOf (vals U.al)) → (∀ V ∈ Vs, V.st ∈ order → V.al ∈ order) →
      wpAny P .any ops Q d listed (putL ops vals order a0) w := by
  intro d
  induction d with
  | zero =>
    intro order listed vals w hd hn hlt hsz hl hg hR hB hD hS
    have hlen : order.length = ops.size := by omega
    have hall := (length_le_of hn hlt).2 hlen
    have e2 : putL ops vals order a0 = putL ops vals (List.range ops.size) a0 := by
      have ht : (putL ops vals order a0).tmps = (putL ops vals (List.range ops.size) a0).tmps := by
        apply Array.ext_getElem?
        intro t
        exact putL_same vals t (fun i j => hok.uniq i j t) _ _ _ fun i _ => by rw [List.mem_range]; exact ⟨hlt i, hall i⟩
      have hdf : (putL ops vals order a0).defers = (putL ops vals (List.range ops.size) a0).defers := by rw [putL_defers, putL_defers]
      generalize putL ops vals order a0 = x at *
      generalize putL ops vals (List.range ops.size) a0 = y at *
      cases x; cases y; simp only at ht hdf; subst ht hdf; rfl
    refine ⟨?_, ?_⟩
    · apply List.eq_nil_iff_forall_not_mem.2
      intro j hj
      obtain ⟨hun, o, ho, _⟩ := mem_ready.1 hj
      have hjn : j < ops.size := (Array.getElem?_eq_some_iff.1 ho).1
      rw [Array.getD_eq_getD_getElem?, hl j hjn] at hun
      simp [hall j hjn] at hun
    · rw [e2]
      refine fin vals w hg (fun i hi => hR i (hall i hi)) (fun V hV' => ?_) (fun V hV' U hU hne => ?_)
      · obtain ⟨o, ho, _⟩ := (hV V hV').alloc
        obtain ⟨o', x, y, ho', _⟩ := (hV V hV').store
        obtain ⟨b, h1, h2, h3⟩ := hB V hV' (hall _ (Array.getElem?_eq_some_iff.1 ho).1)
        rw [if_pos (hall _ (Array.getElem?_eq_some_iff.1 ho').1)] at h3
        exact ⟨b, h1, h2, h3⟩
      · obtain ⟨o, ho, _⟩ := (hV V hV').alloc
        obtain ⟨o', ho', _⟩ := (hV U hU).alloc
        exact hD V hV' U hU (hall _ (Array.getElem?_eq_some_iff.1 ho).1) (hall _ (Array.getElem?_eq_some_iff.1 ho').1) hne
  | succ d ih =>
    intro order listed vals w hd hn hlt hsz hl hg hR hB hD hS
    have hT : ∀ j, listed.getD j false = true → j ∈ order := fun j hj => by
      by_cases hj2 : j < ops.size
      · rw [Array.getD_eq_getD_getElem?, hl j hj2] at hj
        simpa using hj
      · rw [Array.getD_eq_getD_getElem?, Array.getElem?_eq_none (by omega)] at hj
        simp at hj
    have hF : ∀ j, j < ops.size → listed.getD j true = false → j ∉ order := fun j hj2 hj => by
      rw [Array.getD_eq_getD_getElem?, hl j hj2] at hj
      simpa using hj
    refine ⟨fun h0 => ?_, fun j hj => ?_⟩
    · exfalso
      have hex : ∃ i, i < ops.size ∧ i ∉ order := Classical.byContradiction fun h => by
        have : ∀ i, i < ops.size → i ∈ order := fun i hi => Classical.byContradiction fun h' => h ⟨i, hi, h'⟩
        have := le_length_of this
        omega
      obtain ⟨i, hi, hno⟩ := hex
      have : ∀ i, i < ops.size → i ∉ order → False := fun i => by
        induction i using Nat.strongRecOn with
        | _ i ihi =>
          intro hi hno
          obtain ⟨o, ho⟩ : ∃ o, ops[i]? = some o := ⟨ops[i], by simp⟩
          have hr : i ∈ Region.ready .any ops listed := mem_ready.2 ⟨by rw [Array.getD_eq_getD_getElem?, hl i (by omega)]; simp [hno], o, ho, fun e he hb => by
            have hlt' := hok.back i o ho e he hb
            by_cases hin : e.on ∈ order
            · rw [Array.getD_eq_getD_getElem?, hl _ (by omega)]; simp [hin]
            · exact (ihi e.on hlt' (by omega) hin).elim⟩
          rw [h0] at hr
          cases hr
      exact this i hi hno
    · obtain ⟨hun, o, ho, hall⟩ := mem_ready.1 hj
      have hjn : j < ops.size := (Array.getElem?_eq_some_iff.1 ho).1
      have hjo : j ∉ order := hF j hjn hun
      have hdeps : ∀ i ∈ depsOf ops j, i ∈ order := fun i hi => by
        obtain ⟨e, he, hb, hon⟩ := hok.deps j o ho i hi
        exact hT i (by rw [← hon]; exact hall e he hb)
      obtain ⟨hex1, hw1⟩ := exec_same hok ho vals order a0 hdeps
      -- on with a value v for operation j, in the world w'
      have next : ∀ v w', Below n0 w0 w' → p j v →
          (∀ V ∈ Vs, V.al ∈ order ++ [j] → ∃ b, (if V.al = j then v else vals V.al) = .pointer (some ⟨b, 0, none⟩) ∧ n0 ≤ b ∧ w'.heap[b]? = some (.cells (if V.st ∈ order ++ [j] then V.xs else V.zero) V.ty)) →
          (∀ V ∈ Vs, ∀ U ∈ Vs, V.al ∈ order ++ [j] → U.al ∈ order ++ [j] → V ≠ U → blkOf (if V.al = j then v else vals V.al) ≠ blkOf (if U.al = j then v else vals U.al)) →
          wpAny P .any ops Q d (listed.setIfInBounds j true) ((putL ops vals order a0).put o.dst v) w' := fun v w' hgw hpv hB' hD' => by
        have hne : ∀ i ∈ order, (fun i => if i = j then v else vals i) i = vals i := fun i hi => by
          have : i ≠ j := fun e => hjo (e ▸ hi)
          simp [this]
        have hp : (putL ops vals order a0).put o.dst v = putL ops (fun i => if i = j then v else vals i) (order ++ [j]) a0 := by
          rw [putL_snoc, putL_congr order a0 hne]
          simp [dstAt, ho]
        rw [hp]
        refine ih (order ++ [j]) _ _ w' (by simp; omega) (List.nodup_append.2 ⟨hn, by simp, fun x hx y hy => by simp at hy; rintro rfl; exact hjo (hy ▸ hx)⟩)
          (fun i hi => ?_) (by simpa using hsz) (fun i hi => ?_) hgw (fun i hi => ?_) hB' hD' (fun V hV' hVs => ?_)
        · simp at hi
          rcases hi with hi | hi
          · exact hlt i hi
          · omega
        · by_cases hij : i = j
          · subst hij
            rw [Array.getElem?_setIfInBounds_self]
            simp [show i < listed.size by omega]
          · rw [Array.getElem?_setIfInBounds_ne (Ne.symm hij), hl i hi]
            simp [hij]
        · simp at hi
          rcases hi with hi | hi
          · have : i ≠ j := fun e => hjo (e ▸ hi)
            simp only [this, if_false]
            exact hR i hi
          · subst hi
            simpa using hpv
        · simp at hVs ⊢
          rcases hVs with hVs | hVs
          · exact .inl (hS V hV' hVs)
          · obtain ⟨o2, x, y, _, _, _, _, _, hdp, _⟩ := (hV V hV').store
            rw [hVs] at hdp
            exact .inl (hdeps _ hdp)
      unfold wpOp
      simp only [ho]
      by_cases hal : ∃ V ∈ Vs, V.al = j
      · -- a variable is made
        obtain ⟨V, hVm, rfl⟩ := hal
        obtain ⟨o', ho', hop, hgd, hds⟩ := (hV V hVm).alloc
        obtain rfl : o' = o := Option.some.inj (ho'.symm.trans ho)
        rw [if_pos (by simp [Region.wanted, hgd])]
        refine .inl ?_
        unfold Oper.wp execOp
        simp only [hop, Instr.alloc, Sem.run_bind, (hV V hVm).zero, Result.andThen_ok, newVar, newRow, Value.cells, run_newObj_alloc, Sem.run_pure]
        have hn0 : n0 ≤ w.heap.size := by rw [hn00]; exact hg.size
        refine next (.pointer (some ⟨w.heap.size, 0, none⟩)) _ (hg.alloc hn0 _) (by rw [pst V hVm]; trivial) (fun U hU hUo => ?_) (fun U hU U' hU' hUo hUo' hne => ?_)
        · by_cases hUV : U.al = V.al
          · obtain rfl := hd1 U hU V hVm hUV
            have hst : U.st ∉ order ++ [U.al] := fun hm => by
              simp at hm
              rcases hm with hm | hm
              · exact hjo (hS U hU hm)
              · exact hd3 U hU U hU hm.symm
            rw [if_neg hst]
            exact ⟨_, by simp, hn0, heap_at _ _ _ rfl⟩
          · simp at hUo
            have hUo' : U.al ∈ order := hUo.resolve_right hUV
            obtain ⟨b, h1, h2, h3⟩ := hB U hU hUo'
            have e : (U.st ∈ order ++ [V.al]) ↔ U.st ∈ order := by simp; exact fun e => absurd e.symm (hd3 V hVm U hU)
            simp only [hUV, if_false, e]
            exact ⟨b, h1, h2, (heap_past _ _ _ (lt_of_block h3)).trans h3⟩
        · have fresh : ∀ U ∈ Vs, U.al ∈ order → blkOf (vals U.al) ≠ some w.heap.size := fun U hU hUo => by
            obtain ⟨b, h1, _, h3⟩ := hB U hU hUo
            rw [h1]
            intro e
            have : b = w.heap.size := Option.some.inj e
            have := lt_of_block h3
            omega
          simp at hUo hUo'
          by_cases h1 : U.al = V.al
          · have h2 : ¬ U'.al = V.al := fun h2 => hne ((hd1 U hU V hVm h1).trans (hd1 U' hU' V hVm h2).symm)
            simp only [h1, h2, if_true, if_false]
            exact fun e => fresh U' hU' (hUo'.resolve_right h2) e.symm
          · by_cases h2 : U'.al = V.al
            · simp only [h1, h2, if_true, if_false]
              exact fresh U hU (hUo.resolve_right h1)
            · simp only [h1, h2, if_false]
              exact hD U hU U' hU' (hUo.resolve_right h1) (hUo'.resolve_right h2) hne
      · by_cases hst : ∃ V ∈ Vs, V.st = j
        · -- a variable is stored into
          obtain ⟨V, hVm, rfl⟩ := hst
          obtain ⟨o', x, y, ho', hop, hgd, hds, hdx, hdp, hxs, hy⟩ := (hV V hVm).store
          obtain rfl : o' = o := Option.some.inj (ho'.symm.trans ho)
          have hVal : V.al ∈ order := hdeps _ hdp
          obtain ⟨b, hb1, hb2, hb3⟩ := hB V hVm hVal
          rw [if_neg hjo] at hb3
          have hyv : (putL ops vals (depsOf ops V.st) a0).eval y = .agg V.xs := hy vals fun i hi hne => hR i (hdeps i hi)
          have hxv : (putL ops vals (depsOf ops V.st) a0).eval (.tmp x) = .pointer (some ⟨b, 0, none⟩) := by
            show (putL ops vals (depsOf ops V.st) a0).tmps.getD x undef = _
            rw [Array.getD_eq_getD_getElem?, putL_at vals x V.al hdx (depsOf ops V.st) a0 hdp fun k _ hk => hok.uniq k V.al x hk hdx, if_pos hxs, hb1]
            rfl
          rw [if_pos (by simp [Region.wanted, hgd])]
          refine .inl ?_
          unfold Oper.wp
          rw [hex1]
          unfold execOp
          simp only [hop, hxv, hyv, Instr.storeAt, Instr.sureAddr, Sem.run_bind, Sem.run_pure, Result.andThen_ok, run_storeVar_row w b V.ty V.ty V.zero V.xs hb3 (hV V hVm).size (hV V hVm).size' (hV V hVm).one]
          refine next undef _ (hg.trans ⟨rfl, rfl, rfl, by simp, fun k hk => setRow_other _ _ _ _ (by omega)⟩) (by rw [pst' V hVm]; trivial) (fun U hU hUo => ?_) (fun U hU U' hU' hUo hUo' hne => ?_)
          · have hUne : ¬ U.al = V.st := hd3 U hU V hVm
            simp at hUo
            have hUo' : U.al ∈ order := hUo.resolve_right hUne
            simp only [hUne, if_false]
            by_cases hUV : U = V
            · subst hUV
              rw [if_pos (by simp)]
              exact ⟨b, hb1, hb2, setRow_heap _ _ _ _ _ _ hb3⟩
            · obtain ⟨c, h1, h2, h3⟩ := hB U hU hUo'
              have e : (U.st ∈ order ++ [V.st]) ↔ U.st ∈ order := by simp; exact fun e => absurd (hd2 U hU V hVm e) hUV
              have hcb : c ≠ b := fun e => hD U hU V hVm hUo' hVal hUV (by rw [h1, hb1, e])
              simp only [e]
              exact ⟨c, h1, h2, (setRow_other _ _ _ _ hcb).trans h3⟩
          · simp at hUo hUo'
            simp only [hd3 U hU V hVm, hd3 U' hU' V hVm, if_false]
            exact hD U hU U' hU' (hUo.resolve_right (hd3 U hU V hVm)) (hUo'.resolve_right (hd3 U' hU' V hVm)) hne
        · -- any other operation
          have hno : ∀ V ∈ Vs, V.al ≠ j ∧ V.st ≠ j := fun V hV' => ⟨fun e => hal ⟨V, hV', e⟩, fun e => hst ⟨V, hV', e⟩⟩
          have hs := step j o ho hno vals w hg fun i hi _ => hR i (hdeps i hi)
          have go : ∀ v w', Grew w w' → p j v → wpAny P .any ops Q d (listed.setIfInBounds j true) ((putL ops vals order a0).put o.dst v) w' := fun v w' hgw hpv => by
            have hn0 : Below n0 w0 w' := hg.trans (hgw.mono (by rw [hn00]; exact hg.size))
            refine next v w' hn0 hpv (fun V hV' hVo => ?_) (fun V hV' U hU hVo hUo hne => ?_)
            · simp at hVo
              have hVo' : V.al ∈ order := hVo.resolve_right (hno V hV').1
              obtain ⟨b, h1, h2, h3⟩ := hB V hV' hVo'
              have e : (V.st ∈ order ++ [j]) ↔ V.st ∈ order := by simp; exact fun e => absurd e (hno V hV').2
              simp only [(hno V hV').1, if_false, e]
              exact ⟨b, h1, h2, block_below' hgw h3⟩
            · simp at hVo hUo
              simp only [(hno V hV').1, (hno U hU).1, if_false]
              exact hD V hV' U hU (hVo.resolve_right (hno V hV').1) (hUo.resolve_right (hno U hU).1) hne
          rw [hw1]
          split
          · rename_i hw
            rw [if_pos hw] at hs
            refine .inl ?_
            unfold growAt at hs
            unfold Oper.wp
            rw [hex1]
            generalize (execOp (putL ops vals (depsOf ops j) a0).eval o).run P w = r at hs
            unfold growUpon at hs
            unfold Oper.upon
            split at hs
            · exact go _ _ hs.1 hs.2
            · exact go _ _ hs.1 hs.2
            · exact hs.2.mono fun e w'' ⟨v, he, hg2, hv⟩ => by subst he; exact go _ _ (hs.1.trans hg2) hv
            · exact hs.elim
          · rename_i hw
            rw [if_neg hw] at hs
            exact go _ _ (Below.refl _ _) hs

/-! ### the law with all that hangs on the region written out -/
structure VarSp where
  al : Nat
  st : Nat
  src : Nat
  x : Tmp
  y : Tmp
  zero : Array Value
  xs : Array Value
  ty : TypeId
/-- what each operation yields: a known value, or (a variable made, a store) nothing said -/
def rOf : Option Value → Value → World → Prop
  | some c => IsV c
  | none => fun _ _ => True
def VarHyp (P : Program) (l : List Oper) (a : Act) (Cs : List (Option Value)) (V : VarSp) : Prop :=
  (∃ o, l[V.al]? = some o ∧ o.op = .alloc V.ty ∧ o.guard = none ∧ o.dst = some V.x) ∧ (∃ o, l[V.st]? = some o ∧ o.op = .store V.ty (.tmp V.x) (.tmp V.y) ∧ o.guard = none ∧ o.dst = none) ∧
  (∃ o, l[V.src]? = some o ∧ o.dst = some V.y) ∧ Cs[V.src]? = some (some (.agg V.xs)) ∧ V.x < a.tmps.size ∧ V.y < a.tmps.size ∧
  (∀ w, (zeroValue V.ty).run P w = .ok (.agg V.zero) w) ∧ (P.info? V.ty).map (·.size) = some V.xs.size ∧ V.zero.size = V.xs.size ∧ V.xs.all (·.oneCell') = true ∧ Cs[V.al]? = some none ∧ Cs[V.st]? = some none
def VarsHyp (P : Program) (l : List Oper) (a : Act) (Cs : List (Option Value)) : List VarSp → Prop
  | [] => True
  | V :: Vs => VarHyp P l a Cs V ∧ VarsHyp P l a Cs Vs
def StepsC (P : Program) (ops : Array Oper) (w : World) (a : Act) (Rs : List (Value → World → Prop)) : List (List (Nat × Tmp)) → List (Option Value) → List Oper → Prop
  | d :: D, some c :: Cl, o :: rest => (∀ vals w', Grew w w' → AllR Rs vals w' d → OneStep P ops o (putS d vals a) w' (IsV c) false) ∧ StepsC P ops w a Rs D Cl rest
  | _ :: D, none :: Cl, _ :: rest => StepsC P ops w a Rs D Cl rest
  | _, _, [] => True
  | _, _, _ => False
def VarsDone (vals : Nat → Value) (w w' : World) : List VarSp → Prop
  | [] => True
  | V :: Vs => (∃ b, vals V.al = .pointer (some ⟨b, 0, none⟩) ∧ w.heap.size ≤ b ∧ w'.heap[b]? = some (.cells V.xs V.ty)) ∧ VarsDone vals w w' Vs
def ixB (Ix : List (Nat × Nat)) : Bool := decide ((Ix.map (·.1)).Nodup) && decide ((Ix.map (·.2)).Nodup) && Ix.all fun p => Ix.all fun q => p.1 != q.2
theorem inj_of_nodup {α β : Type} (f : α → β) : ∀ {l : List α}, (l.map f).Nodup → ∀ x ∈ l, ∀ y ∈ l, f x = f y → x = y
  | [], _, _, h, _, _, _ => by cases h
  | z :: l, hn, x, hx, y, hy, e => by
    simp only [List.map_cons, List.nodup_cons] at hn
    cases hx with
    | head =>
      cases hy with
      | head => rfl
      | tail _ hy => exact absurd (e ▸ List.mem_map_of_mem hy) hn.1
    | tail _ hx =>
      cases hy with
      | head => exact absurd (e ▸ List.mem_map_of_mem hx) hn.1
      | tail _ hy => exact inj_of_nodup f hn.2 x hx y hy e
/-- which operations are known -/
def knownB : List (Option Value) → List Bool
  | [] => []
  | some _ :: Cs => true :: knownB Cs
  | none :: Cs => false :: knownB Cs
def varsAllB (l : List Oper) (D : List (List (Nat × Tmp))) (S : List (Nat × Tmp)) (Ix : List (Nat × Nat)) (K : List Bool) : Bool :=
  growB l.toArray l.length && slotsB l.toArray S && decide (S.map (·.1) = (List.range l.length).filter fun i => (dstAt l.toArray i).isSome) &&
  decide (D.length = l.length) && D.all (slotsB l.toArray) && decide (D.map (·.map (·.1)) = (List.range l.length).map (depsOf l.toArray)) && ixB Ix && decide (K.length = l.length) &&
  ((List.range l.length).all fun i => (K.getD i false) || Ix.any fun p => p.1 == i || p.2 == i)

theorem varsHyp_spec {l : List Oper} {a : Act} {Cs : List (Option Value)} : ∀ {Vs : List VarSp}, VarsHyp P l a Cs Vs → ∀ V ∈ Vs, VarHyp P l a Cs V
  | [], _, _, h => by cases h
  | U :: Vs, hs, V, h => by
    cases h with
    | head => exact hs.1
    | tail _ h => exact varsHyp_spec hs.2 V h
theorem varsDone_spec {vals : Nat → Value} {w w' : World} : ∀ {Vs : List VarSp}, (∀ V ∈ Vs, ∃ b, vals V.al = .pointer (some ⟨b, 0, none⟩) ∧ w.heap.size ≤ b ∧ w'.heap[b]? = some (.cells V.xs V.ty)) → VarsDone vals w w' Vs
  | [], _ => trivial
  | V :: _, h => ⟨h V (List.mem_cons_self ..), varsDone_spec fun U hU => h U (List.mem_cons_of_mem _ hU)⟩
theorem stepsC_spec {w : World} {a : Act} {Rs : List (Value → World → Prop)} : ∀ {D : List (List (Nat × Tmp))} {Cl : List (Option Value)} {l : List Oper}, StepsC P ops w a Rs D Cl l →
    ∀ (k : Nat) (o : Oper) (c : Value), l[k]? = some o → Cl[k]? = some (some c) → ∃ d, D[k]? = some d ∧ ∀ vals w', Grew w w' → AllR Rs vals w' d → OneStep P ops o (putS d vals a) w' (IsV c) false := by
  intro D Cl l
  induction l generalizing D Cl with
  | nil => intro _ k o c h; simp at h
  | cons o' l ih =>
    intro hs k o c h hc
    cases D with
    | nil => cases Cl <;> exact hs.elim
    | cons d D =>
      cases Cl with
      | nil => exact hs.elim
      | cons r Cl =>
        cases r with
        | none =>
          cases k with
          | zero => simp at hc
          | succ k => exact ih hs k o c (by simpa using h) (by simpa using hc)
        | some c' =>
          cases k with
          | zero =>
            simp at h hc
            subst h hc
            exact ⟨d, rfl, hs.1⟩
          | succ k => exact ih hs.2 k o c (by simpa using h) (by simpa using hc)
theorem knownB_get : ∀ (Cs : List (Option Value)) (i : Nat), (knownB Cs).getD i false = true → ∃ c, Cs[i]? = some (some c)
  | [], i, h => by simp [knownB] at h
  | some c :: Cs, 0, _ => ⟨c, rfl⟩
  | none :: Cs, 0, h => by simp [knownB] at h
  | some c :: Cs, i + 1, h => by simpa using knownB_get Cs i (by simpa [knownB] using h)
  | none :: Cs, i + 1, h => by simpa using knownB_get Cs i (by simpa [knownB] using h)
theorem knownB_length : ∀ (Cs : List (Option Value)), (knownB Cs).length = Cs.length
  | [] => rfl
  | some _ :: Cs => by simp [knownB, knownB_length Cs]
  | none :: Cs => by simp [knownB, knownB_length Cs]

theorem wp_region_vars {id : Nat} {Q : Exit → Act → World → Prop} {a : Act} {w : World} {l : List Oper} (Cs : List (Option Value)) (Vs : List VarSp) (Ix : List (Nat × Nat)) (D : List (List (Nat × Tmp))) (S : List (Nat × Tmp)) (K : List Bool)
    (hm : P.follows .mixedOrders = true) (hB : varsAllB l D S Ix K = true) (hK : knownB Cs = K) (hIx : Vs.map (fun V => (V.al, V.st)) = Ix)
    (hV : VarsHyp P l a Cs Vs) (step : StepsC P l.toArray w a (Cs.map rOf) D Cs l)
    (fin : ∀ vals w', Grew w w' → EachR vals w' 0 (Cs.map rOf) → VarsDone vals w w' Vs → (∀ V ∈ Vs, ∀ U ∈ Vs, V.al ≠ U.al → blkOf (vals V.al) ≠ blkOf (vals U.al)) → Q .normal (putS S vals a) w') : (Code.region id l.toArray true).wp P Q a w := by
  subst hK hIx
  simp only [varsAllB, Bool.and_eq_true, decide_eq_true_eq, knownB_length] at hB
  obtain ⟨⟨⟨⟨⟨⟨⟨⟨h1, h3⟩, h4⟩, h5⟩, h6⟩, h7⟩, h8⟩, h9⟩, h10⟩ := hB
  have hok : GrowOk l.toArray l.toArray.size := growOk_of (by simpa using h1)
  simp only [ixB, Bool.and_eq_true, decide_eq_true_eq, List.map_map] at h8
  have hix : ∀ V ∈ Vs, ∀ U ∈ Vs, V.al ≠ U.st := fun V hV' U hU => by
    have := List.all_eq_true.1 (List.all_eq_true.1 h8.2 _ (List.mem_map_of_mem hV')) _ (List.mem_map_of_mem hU)
    simpa using this
  have hia : ∀ V ∈ Vs, ∀ U ∈ Vs, V.al = U.al → V = U := fun V hV' U hU e => inj_of_nodup (fun V : VarSp => V.al) h8.1.1 V hV' U hU e
  have his : ∀ V ∈ Vs, ∀ U ∈ Vs, V.st = U.st → V = U := fun V hV' U hU e => inj_of_nodup (fun V : VarSp => V.st) h8.1.2 V hV' U hU e
  have hyp := varsHyp_spec hV
  let p : Nat → Value → Prop := fun i v => match Cs[i]? with | some (some c) => v = c | _ => True
  have hp : ∀ (i : Nat) (c : Value), Cs[i]? = some (some c) → p i = fun v => v = c := fun i c h => by simp only [p, h]
  have hpn : ∀ (i : Nat), Cs[i]? = some none → p i = fun _ => True := fun i h => by simp only [p, h]
  have kn : ∀ i, i < l.length → (∀ V ∈ Vs, V.al ≠ i ∧ V.st ≠ i) → ∃ c, Cs[i]? = some (some c) := fun i hi hno => by
    have := List.all_eq_true.1 h10 i (List.mem_range.2 hi)
    rw [Bool.or_eq_true] at this
    rcases this with h | h
    · exact knownB_get Cs i h
    · obtain ⟨q, hq, hb⟩ := List.any_eq_true.1 h
      obtain ⟨V, hV', rfl⟩ := List.mem_map.1 hq
      have := hno V hV'
      simp only [Bool.or_eq_true, beq_iff_eq] at hb
      rcases hb with e | e
      · exact absurd e this.1
      · exact absurd e this.2
  have toR : ∀ (vals : Nat → Value) (w' : World) (i : Nat), p i (vals i) → ((Cs.map rOf).getD i fun _ _ => True) (vals i) w' := fun vals w' i h => by
    simp only [p] at h
    simp only [List.getD, List.getElem?_map]
    cases hc : Cs[i]? with
    | none => trivial
    | some r =>
      cases r with
      | none => trivial
      | some c => rw [hc] at h; exact h
  let at_ : VarSp → VarAt := fun V => ⟨V.al, V.st, V.zero, V.xs, V.ty⟩
  have memAt : ∀ U ∈ Vs.map at_, ∃ V ∈ Vs, at_ V = U := fun U hU => List.mem_map.1 hU
  refine wp_region_any hm ?_
  have key := wpAny_vars (P := P) (ops := l.toArray) (Q := Q) w a w.heap.size rfl p (Vs.map at_) hok (fun U hU => ?_) (fun U hU U' hU' e => ?_) (fun U hU U' hU' e => ?_) (fun U hU U' hU' => ?_) (fun k o ho hno vals w' hg hd => ?_) (fun U hU => ?_) (fun U hU => ?_)
    (fun vals w' hg hps hvs hds => ?_) l.toArray.size [] (Array.replicate l.length false) (fun _ => undef) { w with drawn := w.drawn + 1 } (by simp) (by simp) (by simp) (by simp) (fun j hj => by
      have hj' : j < l.length := by simpa using hj
      simp [hj']) (Below.drew (Below.refl _ _)) (by simp) (by simp) (by simp) (by simp)
  · simpa [putL] using key
  · obtain ⟨V, hV', rfl⟩ := memAt U hU
    obtain ⟨⟨o1, e1, e2, e3, e4⟩, ⟨o2, f1, f2, f3, f4⟩, ⟨o3, g1, g2⟩, hc, hx, hy, hz, hi, hsz, h1', ha, hs⟩ := hyp V hV'
    have dx : dstAt l.toArray V.al = some V.x := by simp [dstAt, e1, e4]
    have dy : dstAt l.toArray V.src = some V.y := by simp [dstAt, g1, g2]
    have lx : V.x ∈ o2.looksAt l.toArray := by simp [Oper.looksAt, f2, Op.operands]
    have ly : V.y ∈ o2.looksAt l.toArray := by simp [Oper.looksAt, f2, Op.operands]
    have hne : V.src ≠ V.al := fun e => by rw [e, ha] at hc; cases hc
    refine ⟨⟨o1, by simpa using e1, e2, e3, by rw [e4]; rfl⟩, ⟨o2, V.x, .tmp V.y, by simpa using f1, f2, f3, f4, dx, mem_deps (by simpa using f1) dx lx, hx, fun vals hd => ?_⟩, hz, hi, hsz, h1'⟩
    have hsd := mem_deps (ops := l.toArray) (k := V.st) (by simpa using f1) dy ly
    have hv := hd V.src hsd hne
    rw [hp _ _ hc] at hv
    show (putL l.toArray vals (depsOf l.toArray V.st) a).tmps.getD V.y undef = _
    rw [Array.getD_eq_getD_getElem?, putL_at vals V.y V.src dy _ a hsd fun k _ hk => hok.uniq k V.src V.y hk dy, if_pos hy]
    exact hv
  · obtain ⟨V, hV', rfl⟩ := memAt U hU
    obtain ⟨V', hV'', rfl⟩ := memAt U' hU'
    rw [hia V hV' V' hV'' e]
  · obtain ⟨V, hV', rfl⟩ := memAt U hU
    obtain ⟨V', hV'', rfl⟩ := memAt U' hU'
    rw [his V hV' V' hV'' e]
  · obtain ⟨V, hV', rfl⟩ := memAt U hU
    obtain ⟨V', hV'', rfl⟩ := memAt U' hU'
    exact hix V hV' V' hV''
  · have hk : k < l.length := by have := (Array.getElem?_eq_some_iff.1 ho).1; simpa using this
    obtain ⟨c, hc⟩ := kn k hk fun V hV' => hno (at_ V) (List.mem_map_of_mem hV')
    obtain ⟨d, hd', hs⟩ := stepsC_spec step k o c (by simpa using ho) hc
    have hdep : d.map (·.1) = depsOf l.toArray k := by
      have := congrArg (·[k]?) h7
      simp only [List.getElem?_map, hd', Option.map_some] at this
      rw [List.getElem?_range hk] at this
      simpa using this
    have hslots : slotsB l.toArray d = true := List.all_eq_true.1 h6 d (List.mem_of_getElem? hd')
    have := hs vals w' hg (allR_spec fun i hi => by
      refine toR vals w' i ?_
      by_cases hv : ∀ V ∈ Vs.map at_, V.al ≠ i ∧ V.st ≠ i
      · exact hd i (by rw [← hdep]; exact hi) hv
      · have : ∃ V ∈ Vs, V.al = i ∨ V.st = i := Classical.byContradiction fun h => hv fun U hU => by
          obtain ⟨V, hV', rfl⟩ := memAt U hU
          exact ⟨fun e => h ⟨V, hV', .inl e⟩, fun e => h ⟨V, hV', .inr e⟩⟩
        obtain ⟨V, hV', e⟩ := this
        obtain ⟨_, _, _, _, _, _, _, _, _, _, ha, hs'⟩ := hyp V hV'
        rcases e with e | e
        · rw [← e, hpn _ ha]; trivial
        · rw [← e, hpn _ hs']; trivial)
    rw [putS_putL vals d a hslots, hdep] at this
    rw [hp k c hc]
    unfold OneStep at this
    split at this
    · rename_i hw
      rw [if_pos hw]
      unfold growAt at this ⊢
      generalize (execOp (putL l.toArray vals (depsOf l.toArray k) a).eval o).run P w' = r at this
      unfold growUpon at this ⊢
      split at this
      · exact ⟨this.1, this.2.1⟩
      · exact ⟨this.1, this.2.1⟩
      · exact ⟨this.1, this.2.mono fun e w'' ⟨v, he, hg2, hv, _⟩ => ⟨v, he, hg2, hv⟩⟩
      · exact this
    · rename_i hw
      rw [if_neg hw]
      exact this.1
  · obtain ⟨V, hV', rfl⟩ := memAt U hU
    obtain ⟨_, _, _, _, _, _, _, _, _, _, ha, hs'⟩ := hyp V hV'
    exact hpn _ ha
  · obtain ⟨V, hV', rfl⟩ := memAt U hU
    obtain ⟨_, _, _, _, _, _, _, _, _, _, ha, hs'⟩ := hyp V hV'
    exact hpn _ hs'
  · have hsz : l.toArray.size = l.length := by simp
    have := fin vals w' hg (eachR_spec fun i hi => by
      rw [Nat.zero_add]
      exact toR vals w' i (hps i (by rw [hsz, ← h9]; simpa using hi))) (varsDone_spec fun V hV' => hvs (at_ V) (List.mem_map_of_mem hV'))
      (fun V hV' U hU hne => hds (at_ V) (List.mem_map_of_mem hV') (at_ U) (List.mem_map_of_mem hU) fun e => hne (congrArg VarAt.al e))
    rw [putS_putL vals S a h3, h4, ← putL_filter] at this
    rwa [hsz]
end
end Go.Proofs.Ytaagfmpolcpimaa
