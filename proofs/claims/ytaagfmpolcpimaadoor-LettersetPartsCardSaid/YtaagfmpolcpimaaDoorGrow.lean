/-
  A region that draws its order and whose operations only lay new memory: each operation is shown once, by a predicate on its value; whatever order is drawn, all predicates hold behind the region. Conditions: the Bool over the region, which the kernel decides.
-/
import Derived.Test.YtaagfmpolcpimaaDoorLib
import Derived.StillTail
import Derived.Deep.MidRow
namespace Go.Proofs.YtaagfmpolcpimaaDoor
open Go.RowKit

section
variable {P : Program} {ops : Array Oper}

def dstAt (ops : Array Oper) (i : Nat) : Option Tmp := (ops[i]?).bind (·.dst)
/-- the slots of the operations `is`, filled in this order -/
def putL (ops : Array Oper) (vals : Nat → Value) (is : List Nat) (a : Act) : Act := is.foldl (fun a i => a.put (dstAt ops i) (vals i)) a

theorem putL_snoc (vals : Nat → Value) (is : List Nat) (i : Nat) (a : Act) : putL ops vals (is ++ [i]) a = (putL ops vals is a).put (dstAt ops i) (vals i) := by simp [putL]
theorem put_size (a : Act) (d : Option Tmp) (v : Value) : (a.put d v).tmps.size = a.tmps.size := by cases d <;> simp [Act.put]
theorem put_defers (a : Act) (d : Option Tmp) (v : Value) : (a.put d v).defers = a.defers := by cases d <;> rfl
theorem putL_size (vals : Nat → Value) : ∀ (is : List Nat) (a : Act), (putL ops vals is a).tmps.size = a.tmps.size
  | [], _ => rfl
  | i :: is, a => by
    have := putL_size vals is (a.put (dstAt ops i) (vals i))
    simpa [putL, put_size] using this
theorem putL_defers (vals : Nat → Value) : ∀ (is : List Nat) (a : Act), (putL ops vals is a).defers = a.defers
  | [], _ => rfl
  | i :: is, a => by
    have := putL_defers vals is (a.put (dstAt ops i) (vals i))
    simpa [putL, put_defers] using this
theorem putL_congr {vals vals' : Nat → Value} : ∀ (is : List Nat) (a : Act), (∀ i ∈ is, vals i = vals' i) → putL ops vals is a = putL ops vals' is a
  | [], _, _ => rfl
  | i :: is, a, h => by
    have := putL_congr is (a.put (dstAt ops i) (vals i)) fun j hj => h j (List.mem_cons_of_mem _ hj)
    simp only [putL, List.foldl_cons] at this ⊢
    rw [this, h i (List.mem_cons_self ..)]
/-- a slot that none of them writes -/
theorem putL_other (vals : Nat → Value) (t : Tmp) : ∀ (is : List Nat) (a : Act), (∀ i ∈ is, dstAt ops i ≠ some t) → (putL ops vals is a).tmps[t]? = a.tmps[t]?
  | [], _, _ => rfl
  | i :: is, a, h => by
    have := putL_other vals t is (a.put (dstAt ops i) (vals i)) fun j hj => h j (List.mem_cons_of_mem _ hj)
    simp only [putL, List.foldl_cons] at this ⊢
    rw [this]
    have h0 := h i (List.mem_cons_self ..)
    cases hd : dstAt ops i with
    | none => rfl
    | some d =>
      have hne : d ≠ t := fun e => h0 (by rw [hd, e])
      simp [Act.put, Array.getElem?_setIfInBounds_ne hne]
/-- a slot that one of them writes, and no other -/
theorem putL_at (vals : Nat → Value) (t : Tmp) (i : Nat) (hi : dstAt ops i = some t) : ∀ (is : List Nat) (a : Act), i ∈ is → (∀ j ∈ is, dstAt ops j = some t → j = i) →
    (putL ops vals is a).tmps[t]? = if t < a.tmps.size then some (vals i) else none
  | [], _, h, _ => by cases h
  | j :: is, a, h, hu => by
    by_cases hm : i ∈ is
    · have := putL_at vals t i hi is (a.put (dstAt ops j) (vals j)) hm fun k hk => hu k (List.mem_cons_of_mem _ hk)
      simp only [putL, List.foldl_cons] at this ⊢
      rw [this, put_size]
    · obtain rfl : i = j := by
        cases h with
        | head => rfl
        | tail _ h => exact absurd h hm
      have := putL_other (ops := ops) vals t is (a.put (dstAt ops i) (vals i)) fun k hk e => hm (by rw [← hu k (List.mem_cons_of_mem _ hk) e]; exact hk)
      simp only [putL, List.foldl_cons] at this ⊢
      rw [this, hi]
      by_cases ht : t < a.tmps.size
      · simp [Act.put, ht]
      · simp [Act.put, ht]

/-- two lists that hold the same writers of t give the same slot -/
theorem putL_same (vals : Nat → Value) (t : Tmp) (hu : ∀ i j, dstAt ops i = some t → dstAt ops j = some t → i = j) (is js : List Nat) (a : Act)
    (h : ∀ i, dstAt ops i = some t → (i ∈ is ↔ i ∈ js)) : (putL ops vals is a).tmps[t]? = (putL ops vals js a).tmps[t]? := by
  by_cases he : ∃ i ∈ is, dstAt ops i = some t
  · obtain ⟨i, hi, hd⟩ := he
    rw [putL_at vals t i hd is a hi fun j _ hj => hu j i hj hd, putL_at vals t i hd js a ((h i hd).1 hi) fun j _ hj => hu j i hj hd]
  · have h1 : ∀ i ∈ is, dstAt ops i ≠ some t := fun i hi e => he ⟨i, hi, e⟩
    have h2 : ∀ i ∈ js, dstAt ops i ≠ some t := fun i hi e => he ⟨i, (h i e).2 hi, e⟩
    rw [putL_other vals t is a h1, putL_other vals t js a h2]

/-- the world has grown: of what was there nothing has turned -/
abbrev Grew (w w' : World) : Prop := Below w.heap.size w w'
theorem Grew.trans {a b c : World} (h : Grew a b) (k : Grew b c) : Grew a c := Below.trans h (Below.mono k h.size)

/-- what an operation may do: yield a value; be passed over; call; each time the world grows, and R holds of the value -/
def growUpon (P : Program) (w : World) (R : Value → World → Prop) : Result Next → Prop
  | .ok (.value v) w' => Grew w w' ∧ R v w'
  | .ok .skip w' => Grew w w' ∧ R undef w'
  | .ok (.enter f args) w' => Grew w w' ∧ Calls P f args w' fun e w'' => ∃ v, e = .returned v ∧ Grew w' w'' ∧ R v w''
  | _ => False
def growAt (P : Program) (o : Oper) (a : Act) (w : World) (R : Value → World → Prop) : Prop := growUpon P w R ((execOp a.eval o).run P w)

/-- what operation k waits for, among those that write slots that it looks at -/
def depsOf (ops : Array Oper) (k : Nat) : List Nat :=
  match ops[k]? with
  | none => []
  | some o => (List.range ops.size).filter fun i => match dstAt ops i with | some t => (o.looksAt ops).contains t | none => false

/-- does operation k wait for i, directly or through others -/
def reachB (ops : Array Oper) : Nat → Nat → Nat → Bool
  | 0, _, _ => false
  | f + 1, k, i => match ops[k]? with
    | none => false
    | some o => o.after.any fun e => Region.binds .any e && (e.on == i || reachB ops f e.on i)

/-- THE BOOL: no two operations write one slot; each waits only for earlier ones; the first m wait for all that they look at; each from m on waits for all before it -/
def growB (ops : Array Oper) (m : Nat) : Bool :=
  Region.noSelect ops && decide (m ≤ ops.size) &&
  ((List.range ops.size).all fun i => (List.range ops.size).all fun j => decide (i = j) || (dstAt ops i).isNone || dstAt ops i != dstAt ops j) &&
  ((List.range ops.size).all fun k => match ops[k]? with
    | none => true
    | some o => (o.after.all fun e => !Region.binds .any e || decide (e.on < k)) &&
      ((depsOf ops k).all fun i => o.after.any fun e => Region.binds .any e && e.on == i) &&
      (decide (k < m) || ((List.range k).all fun i => reachB ops ops.size k i)))

structure GrowOk (ops : Array Oper) (m : Nat) : Prop where
  sel : Region.noSelect ops = true
  le : m ≤ ops.size
  uniq : ∀ i j t, dstAt ops i = some t → dstAt ops j = some t → i = j
  back : ∀ (k : Nat) (o : Oper), ops[k]? = some o → ∀ e ∈ o.after, Region.binds .any e = true → e.on < k
  deps : ∀ (k : Nat) (o : Oper), ops[k]? = some o → ∀ i ∈ depsOf ops k, ∃ e ∈ o.after, Region.binds .any e = true ∧ e.on = i
  tail : ∀ (k : Nat) (o : Oper), ops[k]? = some o → m ≤ k → ∀ i, i < k → reachB ops ops.size k i = true

theorem dstAt_lt {i : Nat} {t : Tmp} (h : dstAt ops i = some t) : i < ops.size := by
  rcases Nat.lt_or_ge i ops.size with h' | h'
  · exact h'
  · simp [dstAt, Array.getElem?_eq_none h'] at h

theorem growOk_of {m : Nat} (h : growB ops m = true) : GrowOk ops m := by
  simp only [growB, Bool.and_eq_true, decide_eq_true_eq] at h
  obtain ⟨⟨⟨h1, h2⟩, h3⟩, h4⟩ := h
  have h4' : ∀ (k : Nat) (o : Oper), ops[k]? = some o → _ := fun k o ho => by
    have := List.all_eq_true.1 h4 k (List.mem_range.2 (Array.getElem?_eq_some_iff.1 ho).1)
    rw [ho] at this
    simp only [Bool.and_eq_true] at this
    exact this
  refine ⟨h1, h2, fun i j t hi hj => ?_, fun k o ho e he hb => ?_, fun k o ho i hi => ?_, fun k o ho hk i hi => ?_⟩
  · have := List.all_eq_true.1 (List.all_eq_true.1 h3 i (List.mem_range.2 (dstAt_lt hi))) j (List.mem_range.2 (dstAt_lt hj))
    rw [hi, hj] at this
    simpa using this
  · have := Array.all_eq_true_iff_forall_mem.1 (h4' k o ho).1.1 e he
    rw [hb] at this
    simpa using this
  · have := List.all_eq_true.1 (h4' k o ho).1.2 i hi
    obtain ⟨e, he, hb⟩ := Array.any_eq_true'.1 this
    simp only [Bool.and_eq_true, beq_iff_eq] at hb
    exact ⟨e, he, hb.1, hb.2⟩
  · have := (h4' k o ho).2
    have hk' : ¬ k < m := by omega
    simp only [hk', decide_false, Bool.false_or] at this
    exact List.all_eq_true.1 this i (List.mem_range.2 hi)

/-- what is reached is in the order, where the order is closed -/
theorem reach_in {order : List Nat} (hC : ∀ k ∈ order, ∀ o, ops[k]? = some o → ∀ e ∈ o.after, Region.binds .any e = true → e.on ∈ order) : ∀ (f k i : Nat) (o : Oper), ops[k]? = some o →
    (∀ e ∈ o.after, Region.binds .any e = true → e.on ∈ order) → reachB ops f k i = true → i ∈ order
  | 0, _, _, _, _, _, h => by cases h
  | f + 1, k, i, o, ho, hall, h => by
    unfold reachB at h
    rw [ho] at h
    obtain ⟨e, he, hb⟩ := Array.any_eq_true'.1 h
    simp only [Bool.and_eq_true, Bool.or_eq_true, beq_iff_eq] at hb
    have hin := hall e he hb.1
    rcases hb.2 with h1 | h1
    · rw [← h1]; exact hin
    · cases ho' : ops[e.on]? with
      | none =>
        cases f with
        | zero => cases h1
        | succ f => unfold reachB at h1; rw [ho'] at h1; cases h1
      | some o' => exact reach_in hC f e.on i o' ho' (hC e.on hin o' ho') h1

theorem mem_deps {k i : Nat} {o : Oper} {t : Tmp} (ho : ops[k]? = some o) (hi : dstAt ops i = some t) (ht : t ∈ o.looksAt ops) : i ∈ depsOf ops k := by
  unfold depsOf
  rw [ho]
  refine List.mem_filter.2 ⟨List.mem_range.2 (dstAt_lt hi), ?_⟩
  rw [hi]
  simpa using ht

/-- in a frame in which all that operation k looks at is filled, it does what it does in the frame in which just that is filled -/
theorem exec_same {m k : Nat} {o : Oper} (hok : GrowOk ops m) (ho : ops[k]? = some o) (vals : Nat → Value) (order : List Nat) (a : Act) (hd : ∀ i ∈ depsOf ops k, i ∈ order) :
    execOp (putL ops vals order a).eval o = execOp (putL ops vals (depsOf ops k) a).eval o ∧
    Region.wanted o (yielded ops (putL ops vals order a).tmps) = Region.wanted o (yielded ops (putL ops vals (depsOf ops k) a).tmps) := by
  have key : ∀ t, t ∈ o.looksAt ops → (putL ops vals order a).tmps[t]? = (putL ops vals (depsOf ops k) a).tmps[t]? := fun t ht =>
    putL_same vals t (fun i j => hok.uniq i j t) order (depsOf ops k) a fun i hi => ⟨fun _ => mem_deps ho hi ht, fun h => hd i h⟩
  refine ⟨execOp_congr o (fun cs b => Region.noSelect_spec hok.sel k o cs b ho) fun x hx => ?_, ?_⟩
  · cases x with
    | tmp t =>
      have := key t (List.mem_append_left _ (List.mem_filterMap.2 ⟨.tmp t, by simpa using hx, rfl⟩))
      show (putL ops vals order a).tmps.getD t undef = (putL ops vals (depsOf ops k) a).tmps.getD t undef
      rw [Array.getD_eq_getD_getElem?, Array.getD_eq_getD_getElem?, this]
    | const v => rfl
    | global g => rfl
    | func f => rfl
  · unfold Region.wanted
    cases hg : o.guard with
    | none => rfl
    | some gw =>
      obtain ⟨g, want⟩ := gw
      have : yielded ops (putL ops vals order a).tmps g = yielded ops (putL ops vals (depsOf ops k) a).tmps g := by
        unfold yielded
        cases ht : (ops[g]?).bind (·.dst) with
        | none => rfl
        | some t =>
          have := key t (List.mem_append_right _ (by simp [hg, ht]))
          simp [this]
      simp only [this]

/-! ### counting -/
theorem length_le_of {m : Nat} : ∀ {l : List Nat}, l.Nodup → (∀ x ∈ l, x < m) → l.length ≤ m ∧ (l.length = m → ∀ i, i < m → i ∈ l) := by
  induction m with
  | zero =>
    intro l _ h
    cases l with
    | nil => exact ⟨Nat.le_refl _, fun _ i hi => by omega⟩
    | cons x l => exact absurd (h x (List.mem_cons_self ..)) (by omega)
  | succ m ih =>
    intro l hn h
    by_cases hm : m ∈ l
    · have h1 := ih (l := l.erase m) (hn.erase m) fun x hx => by
        have h2 := (hn.mem_erase_iff).1 hx
        have := h x h2.2
        have := h2.1
        omega
      have hl := List.length_erase_of_mem hm
      have hpos := List.length_pos_of_mem hm
      refine ⟨by omega, fun he i hi => ?_⟩
      by_cases him : i = m
      · rw [him]; exact hm
      · exact List.mem_of_mem_erase (h1.2 (by omega) i (by omega))
    · have h1 := ih (l := l) hn fun x hx => by
        have := h x hx
        have : x ≠ m := fun e => hm (e ▸ hx)
        omega
      exact ⟨by omega, fun he => by omega⟩
theorem le_length_of {m : Nat} : ∀ {l : List Nat}, (∀ i, i < m → i ∈ l) → m ≤ l.length := by
  induction m with
  | zero => intro l _; exact Nat.zero_le _
  | succ m ih =>
    intro l h
    have hm := h m (by omega)
    have := ih (l := l.erase m) fun i hi => (List.mem_erase_of_ne (by omega)).2 (h i (by omega))
    have hl := List.length_erase_of_mem hm
    have hpos := List.length_pos_of_mem hm
    omega

/-- the first m listed -/
def flags (n m : Nat) : Array Bool := (Array.range n).map fun i => decide (i < m)
theorem flags_get (n m j : Nat) (h : j < n) : (flags n m)[j]? = some (decide (j < m)) := by simp [flags, h]
theorem flags_size (n m : Nat) : (flags n m).size = n := by simp [flags]

/-- the block that a value leads to -/
def blkOf : Value → Option Nat
  | .pointer (some a) => some a.block
  | .slice (some a) _ _ => some a.block
  | .map r => r
  | _ => none
/-- the value leads to a block that was not there before and is there now -/
def FreshV (v : Value) (w w' : World) : Prop := ∃ b, blkOf v = some b ∧ w.heap.size ≤ b ∧ b < w'.heap.size

theorem wpAny_grow {m : Nat} (hok : GrowOk ops m) {Q : Exit → Act → World → Prop} (R : Nat → Value → World → Prop) (F : Nat → Bool) (stable : ∀ i v w w', Grew w w' → R i v w → R i v w') (w0 : World) (a0 : Act)
    (step : ∀ k o, k < m → ops[k]? = some o → ∀ vals w, Grew w0 w → (∀ i ∈ depsOf ops k, R i (vals i) w) →
      if Region.wanted o (yielded ops (putL ops vals (depsOf ops k) a0).tmps) then growAt P o (putL ops vals (depsOf ops k) a0) w (fun v w' => R k v w' ∧ (F k = true → FreshV v w w')) else R k undef w ∧ F k = false)
    (fin : ∀ vals w, Grew w0 w → (∀ i, i < m → R i (vals i) w) → (∀ i j, i < m → j < m → i ≠ j → F i = true → F j = true → blkOf (vals i) ≠ blkOf (vals j)) → wpAny P .any ops Q (ops.size - m) (flags ops.size m) (putL ops vals (List.range m) a0) w) :
    ∀ (d : Nat) (order : List Nat) (listed : Array Bool) (vals : Nat → Value) (w : World), d + order.length = m → order.Nodup → (∀ i ∈ order, i < m) → listed.size = ops.size →
      (∀ j, j < ops.size → listed[j]? = some (decide (j ∈ order))) → Grew w0 w → (∀ i ∈ order, R i (vals i) w) →
      (∀ i ∈ order, F i = true → ∃ b, blkOf (vals i) = some b ∧ b < w.heap.size) → (∀ i ∈ order, ∀ j ∈ order, i ≠ j → F i = true → F j = true → blkOf (vals i) ≠ blkOf (vals j)) →
      (∀ k ∈ order, ∀ o, ops[k]? = some o → ∀ e ∈ o.after, Region.binds .any e = true → e.on ∈ order) →
      wpAny P .any ops Q (ops.size - order.length) listed (putL ops vals order a0) w := by
  intro d
  induction d with
  | zero =>
    intro order listed vals w hd hn hlt hsz hl hg hR hF1 hF2 hC
    have hlen : order.length = m := by omega
    have hall := (length_le_of hn hlt).2 hlen
    have e1 : listed = flags ops.size m := by
      apply Array.ext_getElem?
      intro j
      by_cases hj : j < ops.size
      · rw [hl j hj, flags_get _ _ _ hj]
        congr 1
        have : (j ∈ order) ↔ j < m := ⟨hlt j, hall j⟩
        simp [this]
      · rw [Array.getElem?_eq_none (by omega), Array.getElem?_eq_none (by rw [flags_size]; omega)]
    have e2 : putL ops vals order a0 = putL ops vals (List.range m) a0 := by
      have ht : (putL ops vals order a0).tmps = (putL ops vals (List.range m) a0).tmps := by
        apply Array.ext_getElem?
        intro t
        exact putL_same vals t (fun i j => hok.uniq i j t) _ _ _ fun i _ => by rw [List.mem_range]; exact ⟨hlt i, hall i⟩
      have hdf : (putL ops vals order a0).defers = (putL ops vals (List.range m) a0).defers := by rw [putL_defers, putL_defers]
      generalize putL ops vals order a0 = x at *
      generalize putL ops vals (List.range m) a0 = y at *
      cases x; cases y; simp only at ht hdf; subst ht hdf; rfl
    rw [e1, e2, hlen]
    exact fin vals w hg (fun i hi => hR i (hall i hi)) fun i j hi hj => hF2 i (hall i hi) j (hall j hj)
  | succ d ih =>
    intro order listed vals w hd hn hlt hsz hl hg hR hF1 hF2 hC
    have hm : m ≤ ops.size := hok.le
    obtain ⟨f, hf⟩ : ∃ f, ops.size - order.length = f + 1 := ⟨ops.size - order.length - 1, by omega⟩
    rw [hf]
    have hex : ∃ i, i < m ∧ i ∉ order := Classical.byContradiction fun h => by
      have : ∀ i, i < m → i ∈ order := fun i hi => Classical.byContradiction fun h' => h ⟨i, hi, h'⟩
      have := le_length_of this
      omega
    have hT : ∀ j, listed.getD j false = true → j ∈ order := fun j hj => by
      by_cases hj2 : j < ops.size
      · rw [Array.getD_eq_getD_getElem?, hl j hj2] at hj
        simpa using hj
      · rw [Array.getD_eq_getD_getElem?, Array.getElem?_eq_none (by omega)] at hj
        simp at hj
    have hF : ∀ j, j < ops.size → listed.getD j true = false → j ∉ order := fun j hj2 hj => by
      rw [Array.getD_eq_getD_getElem?, hl j hj2] at hj
      simpa using hj
    refine ⟨fun h0 => ?_, fun j hj => ?_⟩
    · -- the least that is not listed may come up
      exfalso
      obtain ⟨i, hi, hno⟩ := hex
      have : ∀ i, i < m → i ∉ order → False := fun i => by
        induction i using Nat.strongRecOn with
        | _ i ihi =>
          intro hi hno
          obtain ⟨o, ho⟩ : ∃ o, ops[i]? = some o := ⟨ops[i], by simp⟩
          have hr : i ∈ Region.ready .any ops listed := mem_ready.2 ⟨by rw [Array.getD_eq_getD_getElem?, hl i (by omega)]; simp [hno], o, ho, fun e he hb => by
            have hlt' := hok.back i o ho e he hb
            by_cases hin : e.on ∈ order
            · rw [Array.getD_eq_getD_getElem?, hl _ (by omega)]; simp [hin]
            · exact (ihi e.on hlt' (by omega) hin).elim⟩
          rw [h0] at hr
          cases hr
      exact this i hi hno
    · obtain ⟨hun, o, ho, hall⟩ := mem_ready.1 hj
      have hjn : j < ops.size := (Array.getElem?_eq_some_iff.1 ho).1
      have hjo : j ∉ order := hF j hjn hun
      have hjm : j < m := by
        rcases Nat.lt_or_ge j m with h | h
        · exact h
        · obtain ⟨i, hi, hno⟩ := hex
          exact absurd (reach_in hC ops.size j i o ho (fun e he hb => hT e.on (hall e he hb)) (hok.tail j o ho h i (by omega))) hno
      have hdeps : ∀ i ∈ depsOf ops j, i ∈ order := fun i hi => by
        obtain ⟨e, he, hb, hon⟩ := hok.deps j o ho i hi
        exact hT i (by rw [← hon]; exact hall e he hb)
      obtain ⟨hex1, hw1⟩ := exec_same hok ho vals order a0 hdeps
      have hs := step j o hjm ho vals w hg fun i hi => hR i (hdeps i hi)
      have next : ∀ v w', Grew w w' → R j v w' → (F j = true → FreshV v w w') → wpAny P .any ops Q f (listed.setIfInBounds j true) ((putL ops vals order a0).put o.dst v) w' := fun v w' hgw hRv hfr => by
        have hne : ∀ i ∈ order, (fun i => if i = j then v else vals i) i = vals i := fun i hi => by
          have : i ≠ j := fun e => hjo (e ▸ hi)
          simp [this]
        have hp : (putL ops vals order a0).put o.dst v = putL ops (fun i => if i = j then v else vals i) (order ++ [j]) a0 := by
          rw [putL_snoc, putL_congr order a0 hne]
          simp [dstAt, ho]
        rw [hp]
        have hf' : f = ops.size - (order ++ [j]).length := by simp; omega
        rw [hf']
        refine ih (order ++ [j]) _ _ w' (by simp; omega) (List.nodup_append.2 ⟨hn, by simp, fun x hx y hy => by simp at hy; rintro rfl; exact hjo (hy ▸ hx)⟩)
          (fun i hi => ?_) (by simpa using hsz) (fun i hi => ?_) (hg.trans hgw) (fun i hi => ?_) (fun i hi hFi => ?_) (fun i hi k hk hik hFi hFk => ?_) (fun k hk o' ho' e he hb => ?_)
        · simp at hi
          rcases hi with hi | hi
          · exact hlt i hi
          · omega
        · by_cases hij : i = j
          · subst hij
            rw [Array.getElem?_setIfInBounds_self]
            simp [show i < listed.size by omega]
          · rw [Array.getElem?_setIfInBounds_ne (Ne.symm hij), hl i hi]
            simp [hij]
        · simp at hi
          rcases hi with hi | hi
          · have : i ≠ j := fun e => hjo (e ▸ hi)
            simp only [this, if_false]
            exact stable i _ _ _ hgw (hR i hi)
          · subst hi
            simpa using hRv
        · simp at hi
          rcases hi with hi | hi
          · have : i ≠ j := fun e => hjo (e ▸ hi)
            simp only [this, if_false]
            obtain ⟨b, hb, hlt'⟩ := hF1 i hi hFi
            exact ⟨b, hb, Nat.lt_of_lt_of_le hlt' hgw.size⟩
          · subst hi
            obtain ⟨b, hb, _, hlt'⟩ := hfr hFi
            exact ⟨b, by simpa using hb, hlt'⟩
        · simp at hi hk
          have old : ∀ i, i ∈ order → F i = true → F j = true → blkOf (vals i) ≠ blkOf v := fun i hi hFi hFj => by
            obtain ⟨b, hb, hlt'⟩ := hF1 i hi hFi
            obtain ⟨c, hc, hge, _⟩ := hfr hFj
            rw [hb, hc]
            intro e
            have : b = c := Option.some.inj e
            omega
          by_cases h1 : i = j
          · subst h1
            have h2 : ¬ k = i := fun e => hik e.symm
            have hk' : k ∈ order := hk.resolve_right h2
            simp only [h2, if_true, if_false]
            exact fun e => old k hk' hFk hFi e.symm
          · have hi' : i ∈ order := hi.resolve_right h1
            by_cases h2 : k = j
            · subst h2
              simp only [h1, if_true, if_false]
              exact old i hi' hFi hFk
            · have hk' : k ∈ order := hk.resolve_right h2
              simp only [h1, h2, if_false]
              exact hF2 i hi' k hk' hik hFi hFk
        · simp at hk ⊢
          rcases hk with hk | hk
          · exact .inl (hC k hk o' ho' e he hb)
          · subst hk
            obtain rfl : o' = o := Option.some.inj (ho'.symm.trans ho)
            exact .inl (hT e.on (hall e he hb))
      unfold wpOp
      simp only [ho]
      rw [hw1]
      split
      · rename_i hw
        rw [if_pos hw] at hs
        refine .inl ?_
        unfold growAt at hs
        unfold Oper.wp
        rw [hex1]
        generalize (execOp (putL ops vals (depsOf ops j) a0).eval o).run P w = r at hs
        unfold growUpon at hs
        unfold Oper.upon
        split at hs
        · exact next _ _ hs.1 hs.2.1 hs.2.2
        · exact next _ _ hs.1 hs.2.1 hs.2.2
        · exact hs.2.mono fun e w'' ⟨v, he, hg2, hv, hfr⟩ => by subst he; exact next _ _ (hs.1.trans hg2) hv hfr
        · exact hs.elim
      · rename_i hw
        rw [if_neg hw] at hs
        exact next _ _ (Below.refl _ _) hs.1 fun h => by rw [hs.2] at h; cases h

/-- **THE LAW.** m: how many operations may come up in any order; what stands behind them comes one after the other. -/
theorem wp_region_grow {id : Nat} {Q : Exit → Act → World → Prop} {a : Act} {w : World} {l : List Oper} (m : Nat) (R : Nat → Value → World → Prop) (F : Nat → Bool) (hm : P.follows .mixedOrders = true)
    (hB : (growB l.toArray m && Region.seqB .any l.toArray (l.length - m) m (flags l.length m)) = true)
    (stable : ∀ i v w w', Grew w w' → R i v w → R i v w')
    (step : ∀ k o, k < m → l[k]? = some o → ∀ vals w', Grew w w' → (∀ i ∈ depsOf l.toArray k, R i (vals i) w') →
      if Region.wanted o (yielded l.toArray (putL l.toArray vals (depsOf l.toArray k) a).tmps) then growAt P o (putL l.toArray vals (depsOf l.toArray k) a) w' (fun v w'' => R k v w'' ∧ (F k = true → FreshV v w' w'')) else R k undef w' ∧ F k = false)
    (fin : ∀ vals w', Grew w w' → (∀ i, i < m → R i (vals i) w') → (∀ i j, i < m → j < m → i ≠ j → F i = true → F j = true → blkOf (vals i) ≠ blkOf (vals j)) → wpList P l.toArray Q (l.drop m) (putL l.toArray vals (List.range m) a) w') : (Code.region id l.toArray true).wp P Q a w := by
  simp only [Bool.and_eq_true] at hB
  have hok := growOk_of hB.1
  have hle : m ≤ l.length := by simpa using hok.le
  refine wp_region_any hm ?_
  have := wpAny_grow (P := P) (Q := Q) hok R F stable w a (fun k o hk ho => step k o hk (by simpa using ho)) (fun vals w' hg hR hF => by
    have := wpAny_of_seq (P := P) (md := .any) (Q' := Q) (l.drop m) m (flags l.length m) (putL l.toArray vals (List.range m) a) w' (fun j => by simp [List.getElem?_drop]) (by simpa using hB.2) (fin vals w' hg hR hF)
    simpa using this) m [] (Array.replicate l.length false) (fun _ => undef) { w with drawn := w.drawn + 1 } (by simp) (by simp) (by simp) (by simp) (fun j hj => by
      have hj' : j < l.length := by simpa using hj
      simp [hj']) (Below.drew (Below.refl _ _)) (by simp) (by simp) (by simp) (by simp)
  simpa [putL] using this

/-! ### the law with all that hangs on the region written out -/
/-- slots filled: (operation, slot) -/
def putS (ps : List (Nat × Tmp)) (vals : Nat → Value) (a : Act) : Act := ps.foldl (fun a p => a.put (some p.2) (vals p.1)) a
def AllR (Rs : List (Value → World → Prop)) (vals : Nat → Value) (w : World) : List (Nat × Tmp) → Prop
  | [] => True
  | p :: ps => (Rs.getD p.1 fun _ _ => True) (vals p.1) w ∧ AllR Rs vals w ps
def EachR (vals : Nat → Value) (w : World) : Nat → List (Value → World → Prop) → Prop
  | _, [] => True
  | k, R :: Rs => R (vals k) w ∧ EachR vals w (k + 1) Rs
/-- one operation's step: its guard says yes and it grows, or it is passed over -/
def OneStep (P : Program) (ops : Array Oper) (o : Oper) (a : Act) (w : World) (R : Value → World → Prop) (f : Bool) : Prop :=
  if Region.wanted o (yielded ops a.tmps) then growAt P o a w (fun v w' => R v w' ∧ (f = true → FreshV v w w')) else R undef w ∧ f = false
def Steps (P : Program) (ops : Array Oper) (w : World) (a : Act) (Rs : List (Value → World → Prop)) (F : List Nat) : Nat → List (List (Nat × Tmp)) → List (Value → World → Prop) → List Oper → Prop
  | k, d :: D, R :: Rl, o :: rest => (∀ vals w', Grew w w' → AllR Rs vals w' d → OneStep P ops o (putS d vals a) w' R (F.contains k)) ∧ Steps P ops w a Rs F (k + 1) D Rl rest
  | _, _, _, [] => True
  | _, _, _, _ => False
def StableAll : List (Value → World → Prop) → Prop
  | [] => True
  | R :: Rs => (∀ v w w', Grew w w' → R v w → R v w') ∧ StableAll Rs

def slotsB (ops : Array Oper) (ps : List (Nat × Tmp)) : Bool := ps.all fun p => dstAt ops p.1 == some p.2
theorem putS_putL (vals : Nat → Value) : ∀ (ps : List (Nat × Tmp)) (a : Act), slotsB ops ps = true → putS ps vals a = putL ops vals (ps.map (·.1)) a
  | [], _, _ => rfl
  | p :: ps, a, h => by
    simp only [slotsB, List.all_cons, Bool.and_eq_true, beq_iff_eq] at h
    have := putS_putL vals ps (a.put (some p.2) (vals p.1)) h.2
    simp only [putS, putL, List.foldl_cons, List.map_cons, h.1] at this ⊢
    exact this
theorem putL_filter (vals : Nat → Value) : ∀ (is : List Nat) (a : Act), putL ops vals is a = putL ops vals (is.filter fun i => (dstAt ops i).isSome) a
  | [], _ => rfl
  | i :: is, a => by
    have h1 := putL_filter vals is (a.put (dstAt ops i) (vals i))
    have h0 := putL_filter vals is a
    cases hd : dstAt ops i with
    | none =>
      have : putL ops vals (i :: is) a = putL ops vals is a := by simp [putL, hd, Act.put]
      rw [this, h0, List.filter_cons_of_neg (by simp [hd])]
    | some d =>
      rw [List.filter_cons_of_pos (by simp [hd])]
      simp only [putL, List.foldl_cons] at h1 ⊢
      exact h1

/-- what the kernel decides -/
def growAllB (l : List Oper) (m : Nat) (D : List (List (Nat × Tmp))) (S : List (Nat × Tmp)) : Bool :=
  growB l.toArray m && Region.seqB .any l.toArray (l.length - m) m (flags l.length m) && slotsB l.toArray S && decide (S.map (·.1) = (List.range m).filter fun i => (dstAt l.toArray i).isSome) &&
  decide (D.length = m) && D.all (slotsB l.toArray) && decide (D.map (·.map (·.1)) = (List.range m).map (depsOf l.toArray))

theorem allR_spec {Rs : List (Value → World → Prop)} {vals : Nat → Value} {w : World} : ∀ {ps : List (Nat × Tmp)}, (∀ i ∈ ps.map (·.1), (Rs.getD i fun _ _ => True) (vals i) w) → AllR Rs vals w ps
  | [], _ => trivial
  | p :: ps, h => ⟨h p.1 (by simp), allR_spec fun i hi => h i (by simp only [List.map_cons]; exact List.mem_cons_of_mem _ hi)⟩
theorem eachR_spec {vals : Nat → Value} {w : World} : ∀ {Rs : List (Value → World → Prop)} {k : Nat}, (∀ i, i < Rs.length → (Rs.getD i fun _ _ => True) (vals (k + i)) w) → EachR vals w k Rs
  | [], _, _ => trivial
  | R :: Rs, k, h => ⟨by simpa using h 0 (by simp), eachR_spec fun i hi => by have := h (i + 1) (by simp; omega); simpa [Nat.add_assoc, Nat.add_comm 1 i] using this⟩
theorem stableAll_spec {Rs : List (Value → World → Prop)} : StableAll Rs → ∀ (i : Nat) v w w', Grew w w' → (Rs.getD i fun _ _ => True) v w → (Rs.getD i fun _ _ => True) v w' := by
  induction Rs with
  | nil => intro _ i v w w' _ h; simp
  | cons R Rs ih =>
    intro hs i v w w' hg h
    cases i with
    | zero => simp only [List.getD_cons_zero] at *; exact hs.1 v w w' hg h
    | succ i => simp only [List.getD_cons_succ] at *; exact ih hs.2 i v w w' hg h
theorem steps_spec {w : World} {a : Act} {Rs : List (Value → World → Prop)} {F : List Nat} : ∀ {n : Nat} {D : List (List (Nat × Tmp))} {Rl : List (Value → World → Prop)} {l : List Oper}, Steps P ops w a Rs F n D Rl l →
    ∀ (k : Nat) (o : Oper), l[k]? = some o → ∃ d R, D[k]? = some d ∧ Rl[k]? = some R ∧ ∀ vals w', Grew w w' → AllR Rs vals w' d → OneStep P ops o (putS d vals a) w' R (F.contains (n + k)) := by
  intro n D Rl l
  induction l generalizing n D Rl with
  | nil => intro _ k o h; simp at h
  | cons o' l ih =>
    intro hs k o h
    cases D with
    | nil => cases Rl <;> exact hs.elim
    | cons d D =>
      cases Rl with
      | nil => exact hs.elim
      | cons R Rl =>
        cases k with
        | zero =>
          simp at h
          subst h
          exact ⟨d, R, rfl, rfl, hs.1⟩
        | succ k =>
          have := ih hs.2 k o (by simpa using h)
          rwa [show n + 1 + k = n + (k + 1) by omega] at this

theorem wp_region_grows {id : Nat} {Q : Exit → Act → World → Prop} {a : Act} {w : World} {l : List Oper} (m : Nat) (Rs : List (Value → World → Prop)) (F : List Nat) (D : List (List (Nat × Tmp))) (S : List (Nat × Tmp))
    (hm : P.follows .mixedOrders = true) (hB : growAllB l m D S = true) (hlen : Rs.length = m) (stable : StableAll Rs)
    (step : Steps P l.toArray w a Rs F 0 D Rs (l.take m))
    (fin : ∀ vals w', Grew w w' → EachR vals w' 0 Rs → (∀ i j, i < m → j < m → i ≠ j → F.contains i = true → F.contains j = true → blkOf (vals i) ≠ blkOf (vals j)) → wpList P l.toArray Q (l.drop m) (putS S vals a) w') : (Code.region id l.toArray true).wp P Q a w := by
  simp only [growAllB, Bool.and_eq_true, decide_eq_true_eq] at hB
  obtain ⟨⟨⟨⟨⟨⟨h1, h2⟩, h3⟩, h4⟩, h5⟩, h6⟩, h7⟩ := hB
  refine wp_region_grow m (fun i => Rs.getD i fun _ _ => True) (fun i => F.contains i) hm (by rw [h1, h2]; rfl) (fun i v w w' hg h => stableAll_spec stable i v w w' hg h) (fun k o hk ho vals w' hg hR => ?_) (fun vals w' hg hR hF => ?_)
  · obtain ⟨d, R, hd, hR', hs⟩ := steps_spec step k o (by rw [List.getElem?_take, if_pos hk]; exact ho)
    have hdep : d.map (·.1) = depsOf l.toArray k := by
      have := congrArg (·[k]?) h7
      simp only [List.getElem?_map, hd, Option.map_some] at this
      rw [List.getElem?_range hk] at this
      simpa using this
    have hslots : slotsB l.toArray d = true := List.all_eq_true.1 h6 d (List.mem_of_getElem? hd)
    have := hs vals w' hg (allR_spec fun i hi => hR i (by rw [← hdep]; exact hi))
    rw [putS_putL vals d a hslots, hdep] at this
    have hRk : (Rs.getD k fun _ _ => True) = R := by simp [List.getD, hR']
    rw [Nat.zero_add] at this
    simp only [hRk]
    exact this
  · have := fin vals w' hg (eachR_spec fun i hi => by simpa using hR i (by omega)) hF
    rwa [putS_putL vals S a h3, h4, ← putL_filter] at this

/-! ### steps -/
/-- the value is c (a plain definition: the walk's simp does not lay it open) -/
def IsV (c : Value) (v : Value) (_w : World) : Prop := v = c
theorem IsV.stable (c : Value) : ∀ v w w', Grew w w' → IsV c v w → IsV c v w' := fun _ _ _ _ h => h
theorem isV_mk (c : Value) (w : World) : IsV c c w := rfl
@[go_sem, simp] theorem grew_refl (w : World) : Below w.heap.size w w = True := by simp [Below.refl]
/-- the value is a slice over a new row of just these cells -/
def IsRow (xs : Array Value) (t : TypeId) (n : Nat) (v : Value) (w : World) : Prop := ∃ b, v = .slice (some ⟨b, 0, none⟩) n n ∧ w.heap[b]? = some (.cells xs t)
theorem IsRow.stable (xs : Array Value) (t : TypeId) (n : Nat) : ∀ v w w', Grew w w' → IsRow xs t n v w → IsRow xs t n v w' := fun _ _ _ hg ⟨b, hv, hb⟩ => ⟨b, hv, block_below' hg hb⟩
theorem isRow_new (xs : Array Value) (t : TypeId) (n : Nat) (w : World) : IsRow xs t n (.slice (some ⟨w.heap.size, 0, none⟩) n n) (w.alloc (.cells xs t)) := ⟨_, rfl, heap_at _ _ _ rfl⟩
theorem grew_alloc (w : World) (o : Obj) : Grew w (w.alloc o) := (Below.refl _ _).alloc (Nat.le_refl _) _
/-- the value is a pointer to a new variable of just these cells -/
def IsBox (xs : Array Value) (t : TypeId) (v : Value) (w : World) : Prop := ∃ b, v = .pointer (some ⟨b, 0, none⟩) ∧ w.heap[b]? = some (.cells xs t)
theorem IsBox.stable (xs : Array Value) (t : TypeId) : ∀ v w w', Grew w w' → IsBox xs t v w → IsBox xs t v w' := fun _ _ _ hg ⟨b, hv, hb⟩ => ⟨b, hv, block_below' hg hb⟩
theorem one_alloc {o : Oper} {a : Act} {w : World} (hgd : Region.wanted o (yielded ops a.tmps) = true) (ty : TypeId) (ho : o.op = .alloc ty) (arr : Array Value)
    (hz : ∀ w, (zeroValue ty).run P w = .ok (.agg arr) w) : OneStep P ops o a w (IsBox arr ty) true := by
  unfold OneStep
  rw [if_pos hgd]
  unfold growAt execOp
  simp only [ho, Instr.alloc, Sem.run_bind, hz, Result.andThen_ok, newVar, newRow, Value.cells, run_newObj_alloc, Sem.run_pure]
  exact ⟨grew_alloc _ _, ⟨_, rfl, heap_at _ _ _ rfl⟩, fun _ => ⟨w.heap.size, rfl, Nat.le_refl _, by simp⟩⟩
theorem one_load_mid {o : Oper} {a : Act} {w : World} {R : Value → World → Prop} (hgd : Region.wanted o (yielded ops a.tmps) = true) (ty : TypeId) (x : Operand) (ho : o.op = .load ty x)
    (g off : Nat) (hx : a.eval x = .pointer (some ⟨g, off, none⟩)) (cs : List Value) (d : TypeDesc) (hc : w.rangeAt g off cs)
    (hu : P.underlying ty = some d) (hd : d.isRow = true) (hi : (P.info? ty).map (·.size) = some cs.length)
    (h : R (.agg cs.toArray) w) : OneStep P ops o a w R false := by
  unfold OneStep
  rw [if_pos hgd]
  unfold growAt execOp
  simp only [ho, hx, Sem.run_bind, run_loadAt_mid w g off ty cs d hc hu hd hi, Result.andThen_ok]
  exact ⟨Below.refl _ _, h, fun h => by cases h⟩
theorem one_load_row {o : Oper} {a : Act} {w : World} {R : Value → World → Prop} (hgd : Region.wanted o (yielded ops a.tmps) = true) (ty : TypeId) (x : Operand) (ho : o.op = .load ty x)
    (g : Nat) (hx : a.eval x = .pointer (some ⟨g, 0, none⟩)) (t : TypeId) (cs : Array Value) (fr : Nat × Nat) (d : TypeDesc) (hg : w.heap[g]? = some (.cells cs t fr))
    (hu : P.underlying ty = some d) (hd : (match d with | .struct _ | .array _ _ => true | _ => false) = true) (hi : (P.info? ty).map (·.size) = some cs.size)
    (h : R (.agg cs) w) : OneStep P ops o a w R false := by
  unfold OneStep
  rw [if_pos hgd]
  unfold growAt execOp
  simp only [ho, hx, Instr.loadAt, Instr.sureAddr, Sem.run_bind, Sem.run_pure, Result.andThen_ok, run_loadVar_row w g t ty cs fr d hg hu hd hi]
  exact ⟨Below.refl _ _, h, fun h => by cases h⟩
end
end Go.Proofs.YtaagfmpolcpimaaDoor
