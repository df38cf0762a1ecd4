/-
  LocateAll: the given statement. For every input the law returns true and leaves its arguments. No condition beyond the statement's own.
-/
import Derived.Test.YtijnhpaafhcndaaBa5
import Derived.ChangeOld
import Derived.Deep.LoopGhost
import Derived.Deep.Slices
import Derived.Lib.SmallJoins
import Derived.LoopIn
import Derived.LoopNIn
import Derived.OpenShut
import Derived.OwnWalkIn
import Derived.ProofKit
import Derived.RangeFuncBound
import Derived.RangeFuncCalls
import Derived.RangeFuncLeaves
import Derived.RangeFuncNested
import Derived.RangeFuncWrites
import Derived.ShutString
import Derived.TacticsInMore
import Derived.Test.YtijnhpaafhcndaaRows
section
namespace Go.Proofs.Ytijnhpaafhcndaa
open Go.RowKit Go.Maps
attribute [local go_sem] InGr
set_option maxHeartbeats 4000000
set_option maxRecDepth 100000
set_option linter.unusedSimpArgs false
set_option linter.unusedVariables false
structure TK (S : Sto) (p s : Nat) (mc : Mc) (bk : Bool) (T : Tab) : Prop where
  ok : TabOk S T
  p : T.p = p
  s : T.s = s
  mc : T.mc = mc
  bk : T.back = bk
theorem TK.ext {S : Sto} {p s : Nat} {mc : Mc} {bk : Bool} {T T' : Tab} (h : TK S p s mc bk T) (hx : T.Ext T') (hT : TabOk S T') : TK S p s mc bk T' := by
  obtain ⟨x1, x2, x3, x4, x5, x6⟩ := hx.same
  exact ⟨hT, x1.trans h.p, x2.trans h.s, x5.trans h.mc, x6.trans h.bk⟩
abbrev TPost (S : Sto) (p s : Nat) (mc : Mc) (bk : Bool) (v : Value) (w : World) (M : List Nat) (e : Ending) (w' : World) : Prop := ∃ T, e = .returned v ∧ TK S p s mc bk T ∧ St w M [tabA T] w'
def TC (S : Sto) (lv : Value) (m p s : Nat) (mc : Mc) (bk : Bool) (f : FuncId) (args : Array Value) (v : Value) : Prop :=
  ∀ T w, TK S p s mc bk T → ((tabA T).sep (stoA s lv m S)).ho w → Calls Try.prog f args w (TPost S p s mc bk v w (tabA T).fp)
def TQ (S : Sto) (lv : Value) (m p s : Nat) (mc : Mc) (bk : Bool) (f : FuncId) (args : Array Value) (v : Value) : Prop :=
  ∀ T w, TK S p s mc bk T → (tabA T).ho w → (stoA s lv m S).ho w → Calls Try.prog f args w fun e w' => e = .returned v ∧ St w [] [] w'
section
variable {S : Sto} {lv : Value} {m p s : Nat} {mc : Mc} {bk : Bool} {f : FuncId} {args : Array Value} {v : Value} {T : Tab} {w w0 : World} {M : List Nat} {L R K : List As}
theorem TC.mk (k : ∀ T w M, Hid (TK S p s mc bk T) → St w M [tabA T] w → Ks w M [stoA s lv m S] → Calls Try.prog f args w (TPost S p s mc bk v w M)) : TC S lv m p s mc bk f args v := fun T w hT h => by
  rw [sep_ho] at h
  obtain ⟨h1, h2, hd⟩ := h
  exact k T w _ (Lib.hid hT) (St.one h1) ⟨by simpa using h2, by simpa using fun b hb hm => hd b hm hb⟩
theorem TC.of (k : ∀ T w, TK S p s mc bk T → ((tabA T).sep (stoA T.s lv m S)).ho w → Calls Try.prog f args w (TabPost S T v (tabA T).fp w)) : TC S lv m p s mc bk f args v := fun T w hT h => by
  refine (k T w hT (by rw [hT.s]; exact h)).mono ?_
  rintro e w' ⟨T', he, hx, hT', hs⟩
  exact ⟨T', he, hT.ext hx hT', hs⟩
theorem TC.use (hc : TC S lv m p s mc bk f args v) (hT : TK S p s mc bk T) (H : St w0 M L w) (hp : Pick L (tabA T) R) (hs : ((tabA T).sep (stoA s lv m S)).ho w) {Q : Ending → World → Prop} (k : ∀ T' w', Hid (TK S p s mc bk T') → St w0 M (tabA T' :: R) w' → Q (.returned v) w') : Calls Try.prog f args w Q := by
  refine (hc T w hT hs).mono ?_
  rintro e w' ⟨T', rfl, hT', hst⟩
  exact k T' w' (Lib.hid hT') (by simpa using (H.pick hp).call hst)
theorem TQ.use (hc : TQ S lv m p s mc bk f args v) (hT : TK S p s mc bk T) (H : St w0 M L w) (hp : Pick L (tabA T) R) (hs : ((tabA T).sep (stoA s lv m S)).ho w) {Q : Ending → World → Prop} (k : ∀ w', St w0 M L w' → Q (.returned v) w') : Calls Try.prog f args w Q := by
  rw [sep_ho] at hs
  refine (hc T w hT hs.1 hs.2.1).mono ?_
  rintro e w' ⟨rfl, hst⟩
  exact k w' (H.grew hst.below)
theorem St.sepO {A B : As} {R R' : List As} (h : St w0 M L w) (h1 : Pick L A R) (h2 : Pick R B R') : (A.sep B).ho w := by
  have := (h.pick2 h1 h2).join
  exact this.ho _ List.mem_cons_self
end
theorem ts {P : Prop} (h : P := by first | exact H.sepK HK pk pk | exact H.sepO pk pk) : P := h
def Sto.dtx (S : Sto) (bk : Bool) (id : Nat) : List Nat := dirT bk (S.txt id)
theorem dtx_lt {S : Sto} (hS : S.Ok) (bk : Bool) {id : Nat} (hid : id ≤ S.list.length) : ∀ b ∈ S.dtx bk id, b < 256 := fun b hb => S.txt_lt hS hid b (by unfold Sto.dtx dirT at hb; split at hb; simpa using hb; exact hb)
section
variable {S : Sto} {lv : Value} {m p s : Nat} {mc : Mc} {bk : Bool} {id q : Nat}
theorem send_t (hS : S.Ok) (hid : id ≤ S.list.length) (hq : q < mc.n) : TC S lv m p s mc bk 46 #[.pointer (some ⟨p, 0, none⟩), .int .i64 id, .int .i64 q] (.int .i64 (mc.ends q (S.dtx bk id) : Nat)) :=
  TC.of fun T w hT h => by
    obtain ⟨ok, rfl, rfl, rfl, rfl⟩ := hT
    exact send_c hS ok hid hq w h
theorem ssize_t (hS : S.Ok) (hid : id ≤ S.list.length) : TQ S lv m p s mc bk 36 #[.pointer (some ⟨p, 0, none⟩), .int .i64 id] (.int .i64 ((S.txt id).length : Nat)) := fun T w hT h1 h2 => by
  obtain ⟨ok, rfl, rfl, rfl, rfl⟩ := hT
  exact ssize_c hS ok hid w h1 h2
theorem store_t : TQ S lv m p s mc bk 44 #[.pointer (some ⟨p, 0, none⟩)] (.pointer (some ⟨s, 0, none⟩)) := fun T w hT h1 h2 => by
  obtain ⟨ok, rfl, rfl, rfl, rfl⟩ := hT
  refine (store_c ok w h1).mono ?_
  rintro e w' ⟨he, rfl⟩
  exact ⟨he, St.nil _ _⟩
def hitsV (x : Nat) : Value := if x ≤ 1152921504606846976 then .tuple #[.int .i64 x, .nilIface] else .tuple #[.int .i64 0, .iface 42 (.int .i64 2)]
theorem hits_t (hS : S.Ok) (hid : id ≤ S.list.length) (hq : q < mc.n) : TC S lv m p s mc bk 79 #[.pointer (some ⟨p, 0, none⟩), .int .i64 id, .int .i64 q] (hitsV (mc.sum q (S.dtx bk id))) := by
  refine TC.mk fun T w M HT H HK => ?_
  have hTK := HT.out
  obtain ⟨hok, rfl, rfl, rfl, rfl⟩ := hTK
  have HE : Hid (∀ w, ((tabA T).sep (stoA T.s lv m S)).ho w → Calls Try.prog 101 #[.pointer (some ⟨T.p, 0, none⟩), .int .i64 id, .int .i64 q] w (fun e w' => ∃ T' a1 n1 c1 a2 n2 c2, e = .returned (.tuple #[.agg #[.slice a1 n1 c1, .slice a2 n2 c2], .nilIface]) ∧ T.Ext T' ∧ TabOk S T' ∧ (id ≠ 0 → EffAt T'.P T.mc (dirT T.back (S.txt id)) (.slice a1 n1 c1) (.slice a2 n2 c2)) ∧ St w (tabA T).fp [tabA T'] w')) := Lib.hid fun w h => effect_c hS hok hid hq w h
  unfold Sto.dtx
  by_cases hz : id = 0
  · have e0 : T.mc.sum q (dirT T.back (S.txt id)) = 0 := by subst hz; rw [S.txt_zero]; unfold dirT; split <;> rfl
    rw [e0]
    have hz0 : ((id : Int) == 0) = true := by simp [hz]
    clear hok hz e0
    go_enter Try.func79, Try.ntmps79
    go_wp2_with (first | refine sL ?_ | (refine sS ?_; clear H; intro _ H) | (refine sA ?_; clear H; intro _ _ H) | (go_at_call 101; with_reducible refine Calls.mono (HE.out _ ts) ?_; rintro e wc ⟨T', a1, n1, c1, a2, n2, c2, rfl, hext, hT', hef, hb⟩; replace H := H.call hb; clear hb; simp only [List.cons_append, List.nil_append] at H; have HX := Lib.hid (HT.out.ext hext hT'); clear hext hT' hef))
    go_ret2
    exact ⟨T', by unfold hitsV; rfl, HX.out, (H.pick (A := tabA T') pk).onlyHead⟩
  · have hz0 : ((id : Int) == 0) = false := by simp; omega
    have hget := effH_get hq (dirT T.back (S.txt id))
    have HG := Lib.hid hget
    have HZ := Lib.hid hz
    have hle := capN_le (T.mc.sum q (dirT T.back (S.txt id)))
    unfold beyond at hle
    have hcap : hitsV (T.mc.sum q (dirT T.back (S.txt id))) = hitsV (capN (T.mc.sum q (dirT T.back (S.txt id)))) := by
      unfold hitsV capN beyond
      split
      · rw [if_pos (by omega)]; congr 4; omega
      · rw [if_neg (by omega)]
    rw [hcap]
    generalize capN (T.mc.sum q (dirT T.back (S.txt id))) = r at *
    clear hok hz hget hcap
    by_cases hr : r ≤ 1152921504606846976
    · have d1 : decide ((1152921504606846976 : Int) < (r : Int)) = false := by simp; omega
      unfold hitsV
      rw [if_pos hr]
      clear hr
      go_enter Try.func79, Try.ntmps79
      go_wp2_with (first | refine sL ?_ | (refine sS ?_; clear H; intro _ H) | (refine sA ?_; clear H; intro _ _ H) | (go_at_call 101; with_reducible refine Calls.mono (HE.out _ ts) ?_; rintro e wc ⟨T', a1, n1, c1, a2, n2, c2, rfl, hext, hT', hef, hb⟩; replace H := H.call hb; clear hb; simp only [List.cons_append, List.nil_append] at H; have HX := Lib.hid (HT.out.ext hext hT'); obtain ⟨g1, o1, d1', he1, hrow⟩ := (EffAt.rowH (hef HZ.out)).hasN (effH_len _ _) (Nat.lt_of_le_of_lt (Nat.zero_le _) hq); injection he1 with x1 x2 x3; subst x1 x2 x3; have HROW := Lib.hid hrow; clear hrow; clear hext hT' hef) | ((with_reducible refine isLoad ?_); refine AtLoad.cel rfl rfl rfl rfl (HROW.out.cell (tabA_pool (H.get (A := tabA T') pk)) encI_len HG.out rfl) ?_; simp only [Act.put, puA, puB, puC]))
      go_ret2
      exact ⟨T', rfl, HX.out, (H.pick (A := tabA T') pk).onlyHead⟩
    · have d1 : decide ((1152921504606846976 : Int) < (r : Int)) = true := by simp; omega
      unfold hitsV
      rw [if_neg hr]
      clear hr
      go_enter Try.func79, Try.ntmps79
      go_wp2_with (first | refine sL ?_ | (refine sS ?_; clear H; intro _ H) | (refine sA ?_; clear H; intro _ _ H) | (go_at_call 101; with_reducible refine Calls.mono (HE.out _ ts) ?_; rintro e wc ⟨T', a1, n1, c1, a2, n2, c2, rfl, hext, hT', hef, hb⟩; replace H := H.call hb; clear hb; simp only [List.cons_append, List.nil_append] at H; have HX := Lib.hid (HT.out.ext hext hT'); obtain ⟨g1, o1, d1', he1, hrow⟩ := (EffAt.rowH (hef HZ.out)).hasN (effH_len _ _) (Nat.lt_of_le_of_lt (Nat.zero_le _) hq); injection he1 with x1 x2 x3; subst x1 x2 x3; have HROW := Lib.hid hrow; clear hrow; clear hext hT' hef) | ((with_reducible refine isLoad ?_); refine AtLoad.cel rfl rfl rfl rfl (HROW.out.cell (tabA_pool (H.get (A := tabA T') pk)) encI_len HG.out rfl) ?_; simp only [Act.put, puA, puB, puC]))
      go_ret2
      exact ⟨T', rfl, HX.out, (H.pick (A := tabA T') pk).onlyHead⟩
theorem hit_t (hS : S.Ok) (hid : id ≤ S.list.length) (hq : q < mc.n) : TC S lv m p s mc bk 74 #[.pointer (some ⟨p, 0, none⟩), .int .i64 id, .int .i64 q] (.bool (decide (0 < mc.sum q (S.dtx bk id)))) := by
  refine TC.mk fun T w M HT H HK => ?_
  have HI := Lib.hid (hits_t (lv := lv) (m := m) (p := p) (s := s) (bk := bk) hS hid hq)
  generalize mc.sum q (S.dtx bk id) = x at *
  unfold hitsV at HI
  by_cases hx : x ≤ 1152921504606846976
  · rw [if_pos hx] at HI
    have e1 : decide (0 < x) = decide ((0 : Int) < (x : Int)) := by simp
    go_enter Try.func74, Try.ntmps74
    go_wp2_with (first | (go_at_call 79; with_reducible refine TC.use HI.out HT.out H pk ts ?_; clear H; intro T' _ HT' H))
    go_ret
    exact ⟨T', by rw [e1]; rfl, HT'.out, H⟩
  · rw [if_neg hx] at HI
    have e1 : decide (0 < x) = true := by simp; omega
    rw [e1]
    clear e1
    go_enter Try.func74, Try.ntmps74
    go_wp2_with (first | (go_at_call 79; with_reducible refine TC.use HI.out HT.out H pk ts ?_; clear H; intro T' _ HT' H))
    go_ret
    exact ⟨T', rfl, HT'.out, H⟩
end
end Go.Proofs.Ytijnhpaafhcndaa
end
section
namespace Go.Proofs.Ytijnhpaafhcndaa
open Go.RowKit
set_option linter.unusedSimpArgs false
set_option linter.unusedVariables false
structure Turn (M : List Nat) (B : Nat) (W W' : World) : Prop where
  os : W'.os = W.os
  tape : W'.tape = W.tape
  output : W'.output = W.output
  size : W.heap.size ≤ W'.heap.size
  keep : ∀ b, b < B → b ∉ M → W'.heap[b]? = W.heap[b]?
theorem Turn.refl (M : List Nat) (B : Nat) (W : World) : Turn M B W W := ⟨rfl, rfl, rfl, Nat.le_refl _, fun _ _ _ => rfl⟩
theorem Turn.trans {M : List Nat} {B : Nat} {X Y Z : World} (h : Turn M B X Y) (k : Turn M B Y Z) : Turn M B X Z := ⟨k.os.trans h.os, k.tape.trans h.tape, k.output.trans h.output, Nat.le_trans h.size k.size, fun b hb hm => (k.keep b hb hm).trans (h.keep b hb hm)⟩
theorem Turn.widen {M M' : List Nat} {B B' : Nat} {W W' : World} (h : Turn M B W W') (hM : ∀ b ∈ M, b < B' → b ∈ M') (hB : B' ≤ B) : Turn M' B' W W' := ⟨h.os, h.tape, h.output, h.size, fun b hb hm => h.keep b (by omega) fun hx => hm (hM b hx hb)⟩
theorem Turn.putObj (M : List Nat) {B l : Nat} (W : World) (o : Obj) (h : l ∈ M ∨ B ≤ l) : Turn M B W (W.putObj l o) := ⟨rfl, rfl, rfl, by simp, fun b hb hm => World.putObj_heap_other (fun e => by subst e; rcases h with h | h; exact hm h; omega)⟩
theorem Turn.alloc (M : List Nat) {B : Nat} {W : World} (o : Obj) (h : B ≤ W.heap.size) : Turn M B W (W.alloc o) := ⟨rfl, rfl, rfl, by simp, fun b hb _ => Below.heap_alloc W o b (by omega)⟩
theorem Turn.of_st {M : List Nat} {L : List As} {W W' : World} (h : St W M L W') : Turn M W.heap.size W W' := ⟨h.os, h.tape, h.output, h.size, h.keep⟩
def Abd {β : Type} (M : List Nat) (B : Nat) (J : β → World → Prop) : Prop := ∀ s W W', J s W → Turn M B W W' → J s W'
def SeqT {α : Type} (F : Fence) (n : Nat) (P : Program) (g : Nat) (lb : Array Value) (encs : α → Array Value) (M MB : List Nat) (Ok : List α → α → Prop) (S Sp : List α → Prop) (w : World) : Prop :=
  ∀ (l : Nat) (J Jx : List α → World → Prop) (W : World), Below w.heap.size w W → l = w.heap.size + 1 → W.heap.size = w.heap.size + 2 → Abd M W.heap.size J → Abd M W.heap.size Jx →
    (∀ pre x W1, J pre W1 → W.heap.size ≤ W1.heap.size → Ok pre x → YieldAt F (n - 1) P l (encs x) W1 fun e W' =>
      (e = .returned (.bool true) ∧ J (pre ++ [x]) W' ∧ Turn (l :: MB) W1.heap.size W1 W') ∨ (e = .returned (.bool false) ∧ Jx (pre ++ [x]) W')) →
    J [] W →
    CallsIn F n P g (#[.func (.yield l) #[] #[]] ++ lb) W fun e W' => (∃ v, e = .returned v) ∧ ((∃ xs, S xs ∧ J xs W') ∨ (∃ pre, Sp pre ∧ Jx pre W'))
def postT {α : Type} (MB : List Nat) (I : List α → World → Prop) (Ix : Code → List α → World → Prop) (xs : List α) (W : World) : Exit → Act → World → Prop
  | .normal, _, W' => Turn MB W.heap.size W W' ∧ I xs W'
  | .ret, _, W' => Turn MB W.heap.size W W' ∧ Ix .ret xs W'
  | .exit id, _, W' => Turn MB W.heap.size W W' ∧ Ix (.exit id) xs W'
  | .goto t, _, W' => Turn MB W.heap.size W W' ∧ Ix (.goto t) xs W'
  | .panic _, _, _ => False
  | .outgrown, _, _ => False
variable {F : Fence} {n : Nat} {P : Program}
theorem wpIn_rangeFunc_T {α : Type} {g : Operand} {ps : Array Tmp} {assign body : Code} {Q : Exit → Act → World → Prop} {a : Act} {w : World}
    (hro : F.round = none) (h1 : 1 ≤ n) {gf : Nat} {lb : Array Value} (hg : a.eval g = .func (.func gf) #[] lb) (hFg : F.fn gf) (eg : ∀ args w, (callFunc gf args).run P w = .ok (.enter gf args) w)
    {encs : α → Array Value} {M MB : List Nat} {Ok : List α → α → Prop} {S Sp : List α → Prop} (hseq : SeqT F (n - 1) P gf lb encs M MB Ok S Sp w)
    (hM : ∀ b ∈ M, b < w.heap.size) (hMB : ∀ b ∈ MB, b < w.heap.size) (hps : ∀ x, (encs x).size = ps.size)
    (I : List α → World → Prop) (Ix : Code → List α → World → Prop) (hI : Abd M w.heap.size I) (hIx : ∀ c, Abd M w.heap.size (Ix c)) (h0 : I [] w) (a₁ : α → Act)
    (hassign : ∀ (l : Nat) (x : α) (W : World) (K : Act → World → Prop), K (a₁ x) W →
      assign.wpIn (F.inRound l) (n - 1 - 1) P (Exit.then K (fun _ _ _ => False)) { tmps := (ps.zip (encs x)).foldl (fun t (p, v) => t.setIfInBounds p v) a.tmps, defers := [] } W)
    (hbody : ∀ (l : Nat) (pre : List α) (x : α) (W : World), w.heap.size ≤ W.heap.size → I pre W → Ok pre x → body.wpIn (F.inRound l) (n - 1 - 1) P (postT MB I Ix (pre ++ [x]) W) (a₁ x) W)
    (hdone : ∀ (D : Nat) (xs : List α) (W : World), w.heap.size ≤ D → S xs → I xs W → W.heap[D]? = some (.deferred (some [])) → Q .normal { a with defers := { target := .collected D, args := #[] } :: a.defers } W)
    (hstop : ∀ (D : Nat) (c : Code) (pre : List α) (W : World), w.heap.size ≤ D → Sp pre → Ix c pre W → W.heap[D]? = some (.deferred (some [])) → c.wpIn F n P Q { a with defers := { target := .collected D, args := #[] } :: a.defers } W) :
    (Code.rangeFunc g ps assign body).wpIn F n P Q a w := by
  refine wpIn_rangeFunc ?_
  intro fn hfn
  rw [hro]
  obtain ⟨rec, hrec⟩ : ∃ rec : LoopState → Option Code → Loop, rec = fun st pe => { state := st, pending := pe, fn, tmps := a.tmps, params := ps, assign, body, defers := w.heap.size } := ⟨_, rfl⟩
  obtain ⟨W1, hW1⟩ : ∃ W1, (w.alloc (.deferred (some []))).alloc (.loop (rec .ready none)) = W1 := ⟨_, rfl⟩
  have hs1 : W1.heap.size = w.heap.size + 2 := by rw [← hW1]; simp
  have hL1 : W1.heap[w.heap.size + 1]? = some (.loop (rec .ready none)) := by
    rw [← hW1]; have := World.alloc_heap_new (w.alloc (.deferred (some []))) (.loop (rec .ready none)); rwa [World.size_alloc] at this
  have hK1 : W1.heap[w.heap.size]? = some (.deferred (some [])) := by
    rw [← hW1]; exact (Below.heap_alloc _ _ _ (by simp)).trans (World.alloc_heap_new w _)
  have hT1 : Turn M w.heap.size w W1 := by
    rw [← hW1]; exact (Turn.alloc M _ (Nat.le_refl _)).trans (Turn.alloc M _ (by simp))
  have hI1 : I [] W1 := hI _ _ _ h0 hT1
  have hb1 : Below w.heap.size w W1 := by
    rw [← hW1]; exact (((Below.refl _ w).alloc (Nat.le_refl _) _).alloc (by simp) _)
  have hnM : ∀ b, w.heap.size ≤ b → b ∉ M := fun b hb h => by have := hM b h; omega
  have hnB : ∀ b, w.heap.size ≤ b → b ∉ MB := fun b hb h => by have := hMB b h; omega
  refine ⟨w.heap.size + 1, [{ target := .collected w.heap.size, args := #[] }], W1, { target := .fn (.func gf) lb, args := #[.func (.yield (w.heap.size + 1)) #[] #[]] }, W1, gf,
    #[.func (.yield (w.heap.size + 1)) #[] #[]] ++ lb, W1, ?_, ?_, ?_, ?_, fun _ => h1, ?_⟩
  · rw [← hW1, hrec]; exact run_enterLoop_outer _ _ _ _ _
  · simp only [resolve, hg]
    simp [go_sem]
  · intro f' hf'; simp [Target.leads] at hf'; subst hf'; exact hFg
  · simp [invoke, go_sem, eg]
  · refine (hseq (w.heap.size + 1)
      (fun pre W => I pre W ∧ W.heap[w.heap.size + 1]? = some (.loop (rec .ready none)) ∧ W.heap[w.heap.size]? = some (.deferred (some [])))
      (fun pre W => ∃ c, Ix c pre W ∧ W.heap[w.heap.size + 1]? = some (.loop (rec .done (some c))) ∧ W.heap[w.heap.size]? = some (.deferred (some [])))
      W1 hb1 rfl hs1
      (fun s A B hs ht => ⟨hI s A B hs.1 (ht.widen (fun b hb _ => hb) (by omega)), (ht.keep _ (by omega) (hnM _ (by omega))).trans hs.2.1, (ht.keep _ (by omega) (hnM _ (by omega))).trans hs.2.2⟩)
      (fun s A B hs ht => by
        obtain ⟨c, hc, hl, hk⟩ := hs
        exact ⟨c, hIx c s A B hc (ht.widen (fun b hb _ => hb) (by omega)), (ht.keep _ (by omega) (hnM _ (by omega))).trans hl, (ht.keep _ (by omega) (hnM _ (by omega))).trans hk⟩)
      ?_ ⟨hI1, hL1, hK1⟩).mono ?_
    · rintro pre x W ⟨hi, hl, hk⟩ hsz hlen
      have hlt : w.heap.size + 1 < W.heap.size := (Array.getElem?_eq_some_iff.1 hl).1
      have hy := run_yield (P := P) (args := encs x) hl (by rw [hrec]; exact hps x)
      rw [hrec] at hy
      refine ⟨fn, _, assign, body, hy, roundIn_of_wpIn hfn (hassign _ x W _ ⟨_, run_beginRound hl (by rw [hrec]), ?_⟩)⟩
      have hl2 : (W.putObj (w.heap.size + 1) (.loop { rec .ready none with state := .busy })).heap[w.heap.size + 1]? = some (.loop { rec .ready none with state := .busy }) := World.putObj_heap_same hlt
      have hk2 : (W.putObj (w.heap.size + 1) (.loop { rec .ready none with state := .busy })).heap[w.heap.size]? = some (.deferred (some [])) := (World.putObj_heap_other (by omega)).trans hk
      have hsz2 : (W.putObj (w.heap.size + 1) (.loop { rec .ready none with state := .busy })).heap.size = W.heap.size := by simp
      have hw2 : Turn ((w.heap.size + 1) :: MB) W.heap.size W (W.putObj (w.heap.size + 1) (.loop { rec .ready none with state := .busy })) := Turn.putObj _ _ _ (.inl (by simp))
      refine wpIn_mono (hbody _ pre x _ (by rw [hsz2]; omega) (hI _ _ _ hi (Turn.putObj _ _ _ (.inr (by omega)))) hlen) ?_
      have fin : ∀ (jump : Option Code) (W3 : World), Turn MB W.heap.size (W.putObj (w.heap.size + 1) (.loop { rec .ready none with state := .busy })) W3 →
          (Instr.endRound (w.heap.size + 1) jump).run P W3 = .ok (.bool jump.isNone) (W3.putObj (w.heap.size + 1) (.loop (rec (if jump.isNone then .ready else .done) jump))) ∧
          (W3.putObj (w.heap.size + 1) (.loop (rec (if jump.isNone then .ready else .done) jump))).heap[w.heap.size + 1]? = some (.loop (rec (if jump.isNone then .ready else .done) jump)) ∧
          (W3.putObj (w.heap.size + 1) (.loop (rec (if jump.isNone then .ready else .done) jump))).heap[w.heap.size]? = some (.deferred (some [])) := fun jump W3 hk3 => by
        have hl3 := (hk3.keep _ (by omega) (hnB _ (by omega))).trans hl2
        have hd3 := (hk3.keep _ (by omega) (hnB _ (by omega))).trans hk2
        have := run_endRound (P := P) jump hl3
        rw [hrec] at this ⊢
        exact ⟨this, World.putObj_heap_same (Array.getElem?_eq_some_iff.1 hl3).1, (World.putObj_heap_other (by omega)).trans hd3⟩
      rintro e a3 W3 hp
      cases e with
      | normal =>
        obtain ⟨hk3, hi3⟩ := hp
        rw [hsz2] at hk3
        obtain ⟨hr, hl4, hk4⟩ := fin none W3 hk3
        exact ⟨_, _, hr, .inl ⟨rfl, ⟨hI _ _ _ hi3 (Turn.putObj _ _ _ (.inr (by omega))), hl4, hk4⟩, (hw2.trans (hk3.widen (fun b hb _ => List.mem_cons_of_mem _ hb) (Nat.le_refl _))).trans (Turn.putObj _ _ _ (.inl (by simp)))⟩⟩
      | ret =>
        obtain ⟨hk3, hi3⟩ := hp
        rw [hsz2] at hk3
        obtain ⟨hr, hl4, hk4⟩ := fin (some .ret) W3 hk3
        exact ⟨_, _, hr, .inr ⟨rfl, .ret, hIx _ _ _ _ hi3 (Turn.putObj _ _ _ (.inr (by omega))), hl4, hk4⟩⟩
      | exit id =>
        obtain ⟨hk3, hi3⟩ := hp
        rw [hsz2] at hk3
        obtain ⟨hr, hl4, hk4⟩ := fin (some (.exit id)) W3 hk3
        exact ⟨_, _, hr, .inr ⟨rfl, .exit id, hIx _ _ _ _ hi3 (Turn.putObj _ _ _ (.inr (by omega))), hl4, hk4⟩⟩
      | goto t =>
        obtain ⟨hk3, hi3⟩ := hp
        rw [hsz2] at hk3
        obtain ⟨hr, hl4, hk4⟩ := fin (some (.goto t)) W3 hk3
        exact ⟨_, _, hr, .inr ⟨rfl, .goto t, hIx _ _ _ _ hi3 (Turn.putObj _ _ _ (.inr (by omega))), hl4, hk4⟩⟩
      | panic ch => exact hp.elim
      | outgrown => exact hp.elim
    · rintro e W2 ⟨⟨v, rfl⟩, (⟨xs, hS, hi, hl, hk⟩ | ⟨pre, hSp, c, hi, hl, hk⟩)⟩
      · exact ⟨none, _, by have := run_endLoop (P := P) hl (by rw [hrec]; simp); rw [hrec] at this; exact this, hdone _ xs _ (Nat.le_refl _) hS (hI _ _ _ hi (Turn.putObj _ _ _ (.inr (by omega)))) ((World.putObj_heap_other (by omega)).trans hk)⟩
      · exact ⟨some c, _, by have := run_endLoop (P := P) hl (by rw [hrec]; simp); rw [hrec] at this; exact this, hstop _ c pre _ (Nat.le_refl _) hSp (hIx c _ _ _ hi (Turn.putObj _ _ _ (.inr (by omega)))) ((World.putObj_heap_other (by omega)).trans hk)⟩
structure Its (M : List Nat) (B : Nat) (L : List As) (W : World) : Prop where
  ho : ∀ A ∈ L, A.ho W
  own : ∀ A ∈ L, ∀ b ∈ A.fp, b ∈ M ∨ B ≤ b
  dis : L.Pairwise fun A A' => ∀ b ∈ A.fp, b ∉ A'.fp
  le : B ≤ W.heap.size
def fps (L : List As) : List Nat := L.flatMap fun A => A.fp
theorem Its.st {M : List Nat} {B : Nat} {L : List As} {W : World} (h : Its M B L W) : St W (fps L) L W :=
  ⟨rfl, rfl, rfl, Nat.le_refl _, fun _ _ _ => rfl, h.ho, fun A hA b hb => .inr (List.mem_flatMap.2 ⟨A, hA, hb⟩), h.dis⟩
theorem Its.of {M : List Nat} {B : Nat} {L L' : List As} {W W' : World} (h : Its M B L W) (hs : St W (fps L) L' W') : Its M B L' W' ∧ Turn M B W W' := by
  have hf : ∀ b ∈ fps L, b ∈ M ∨ B ≤ b := fun b hb => by
    obtain ⟨A, hA, hb⟩ := List.mem_flatMap.1 hb
    exact h.own A hA b hb
  refine ⟨⟨hs.ho, fun A hA b hb => ?_, hs.dis, Nat.le_trans h.le hs.size⟩, hs.os, hs.tape, hs.output, hs.size, fun b hb hm => hs.keep b (Nat.lt_of_lt_of_le hb h.le) fun hx => ?_⟩
  · rcases hs.own A hA b hb with h1 | h1
    · exact .inr (Nat.le_trans h.le h1)
    · exact hf b h1
  · rcases hf b hx with h1 | h1
    · exact hm h1
    · omega
theorem Its.turn {M MB : List Nat} {B : Nat} {L : List As} {W W' : World} (h : Its M B L W) (ht : Turn MB W.heap.size W W') (hd : ∀ b ∈ M, b ∉ MB) (hB : ∀ b ∈ MB, b < B) : Its M B L W' := by
  refine ⟨fun A hA => A.loc W W' (fun b hb => ht.keep b (A.lt W (h.ho A hA) b hb) fun hm => ?_) (h.ho A hA), h.own, h.dis, Nat.le_trans h.le ht.size⟩
  rcases h.own A hA b hb with h1 | h1
  · exact hd b h1 hm
  · have := hB b hm; omega
theorem St.turned {w0 W W' : World} {M : List Nat} {L : List As} {B : Nat} (h : St w0 [] L W) (ht : Turn M B W W') (h0 : w0.heap.size ≤ B) (hM : ∀ b ∈ M, w0.heap.size ≤ b) (hL : ∀ A ∈ L, ∀ b ∈ A.fp, b < B ∧ b ∉ M) : St w0 [] L W' :=
  ⟨ht.os.trans h.os, ht.tape.trans h.tape, ht.output.trans h.output, Nat.le_trans h.size ht.size, fun b hb hm => (ht.keep b (by omega) fun hx => by have := hM b hx; omega).trans (h.keep b hb hm),
    fun A hA => A.loc W W' (fun b hb => ht.keep b (hL A hA b hb).1 (hL A hA b hb).2) (h.ho A hA), h.own, h.dis⟩
end Go.Proofs.Ytijnhpaafhcndaa
end
section
namespace Go.Proofs.Ytijnhpaafhcndaa
set_option linter.unusedSimpArgs false
set_option linter.unusedVariables false
def hitF : List Nat → Nat
  | [] => 0
  | x :: r => if 0 < x then 1 else if hitF r = 0 then 0 else hitF r + 1
theorem hitF_le (a : List Nat) : hitF a ≤ a.length := by
  induction a with
  | nil => simp [hitF]
  | cons x a ih =>
    rw [hitF, List.length_cons]
    split
    · omega
    · split <;> omega
namespace Mc
def fst (m : Mc) (q : Nat) (l : List Nat) : Nat := hitF (m.hits q l)
variable {m : Mc}
theorem sum_rep_zero {q k : Nat} {l : List Nat} (h : ∀ c, c < k → m.sum (itr (fun q => m.ends q l) c q) l = 0) : m.sum q (rep k l) = 0 := by
  induction k with
  | zero => rw [rep_zero]; rfl
  | succ k ih => rw [rep_add, rep_one, sum_append, ih fun c hc => h c (by omega), ends_rep, h k (by omega)]
end Mc
def skC (f : Nat → Nat) (h : Nat → Bool) : Nat → Nat → Nat
  | 0, _ => 0
  | k + 1, q => if h q then 0 else skC f h k (f q) + 1
section
variable {f : Nat → Nat} {h : Nat → Bool}
theorem skC_le : ∀ (k q : Nat), skC f h k q ≤ k
  | 0, _ => Nat.le_refl _
  | k + 1, q => by
    rw [skC]
    split
    · omega
    · have := skC_le k (f q); omega
theorem skC_no : ∀ (k q c : Nat), c < skC f h k q → h (itr f c q) = false
  | 0, _, _, hc => by simp [skC] at hc
  | k + 1, q, c, hc => by
    rw [skC] at hc
    split at hc
    · omega
    · rename_i hq
      cases c with
      | zero => simpa [itr] using hq
      | succ c =>
        rw [Nat.add_comm c 1, itr_add]
        exact skC_no k (f q) c (by omega)
theorem skC_yes : ∀ (k q : Nat), skC f h k q < k → h (itr f (skC f h k q) q) = true
  | 0, _, hc => by omega
  | k + 1, q, hc => by
    by_cases hq : h q = true
    · simp only [skC, hq, if_true] at hc ⊢
      simpa [itr] using hq
    · simp only [skC, hq, if_false] at hc ⊢
      rw [if_neg (by simp), Nat.add_comm _ 1, itr_add]
      rw [if_neg (by simp)] at hc
      exact skC_yes k (f q) (by omega)
theorem skC_eq {k q c : Nat} (hc : c < k) (h0 : ∀ c', c' < c → h (itr f c' q) = false) (h1 : h (itr f c q) = true) : skC f h k q = c := by
  have a := skC_no (f := f) (h := h) k q
  have b := skC_yes (f := f) (h := h) k q
  rcases Nat.lt_trichotomy (skC f h k q) c with hlt | he | hgt
  · have := h0 _ hlt
    rw [b (by omega)] at this
    cases this
  · exact he
  · have := a c hgt
    rw [h1] at this
    cases this
theorem skC_none {k q : Nat} (h0 : ∀ c, c < k → h (itr f c q) = false) : skC f h k q = k := by
  have b := skC_yes (f := f) (h := h) k q
  have hle := skC_le (f := f) (h := h) k q
  rcases Nat.lt_or_ge (skC f h k q) k with hlt | hge
  · have := h0 _ hlt
    rw [b hlt] at this
    cases this
  · omega
end
theorem Orb.none {f : Nat → Nat} {q times tail : Nat} {xs : List Nat} {h : Nat → Bool} (o : Orb f q times xs tail) (h0 : ∀ c, c < xs.length → h (itr f c q) = false) : ∀ c, c < times → h (itr f c q) = false := fun c hc => by
  rcases Nat.lt_or_ge c xs.length with hl | hl
  · exact h0 c hl
  · obtain ⟨h1, h2, h3⟩ := o.at_high (by omega) (by omega : c ≤ times)
    have hj := getElem_len h3
    have := o.at_low hj
    rw [h3] at this
    injection this with this
    rw [this]
    exact h0 _ hj
theorem itr_rest {f : Nat → Nat} {q k n times : Nat} (hk : k < n) (he : itr f n q = itr f k q) (ht : n ≤ times) : itr f (n + (times - n) % (n - k)) q = itr f times q := by
  have h1 : itr f (k + (n - k)) q = itr f k q := by rw [show k + (n - k) = n by omega]; exact he
  rw [itr_mod h1 (c := n + (times - n) % (n - k)) (by omega), itr_mod h1 (c := times) (by omega)]
  congr 2
  rw [show n + (times - n) % (n - k) - k = (times - n) % (n - k) + (n - k) by omega, Nat.add_mod_right, Nat.mod_mod, show times - k = (times - n) + (n - k) by omega, Nat.add_mod_right]
end Go.Proofs.Ytijnhpaafhcndaa
end
section
namespace Go.Proofs.Ytijnhpaafhcndaa
open Go.RowKit Go.Maps
attribute [local go_sem] InGr
set_option maxHeartbeats 4000000
set_option maxRecDepth 100000
set_option linter.unusedSimpArgs false
set_option linter.unusedVariables false
def Sto.stp (S : Sto) (mc : Mc) (bk : Bool) (id : Nat) : Nat → Nat := fun q => mc.ends q (S.dtx bk id)
def Sto.hit (S : Sto) (mc : Mc) (bk : Bool) (id : Nat) : Nat → Bool := fun q => decide (0 < mc.sum q (S.dtx bk id))
theorem stp_lt {S : Sto} {mc : Mc} {c : Nat} (ok : mc.Ok c) (hS : S.Ok) (bk : Bool) {id : Nat} (hid : id ≤ S.list.length) : ∀ q, q < mc.n → S.stp mc bk id q < mc.n := fun q hq => ok.ends_lt hq (dtx_lt hS bk hid)
theorem TK.mok {S : Sto} {p s : Nat} {mc : Mc} {bk : Bool} {T : Tab} (h : TK S p s mc bk T) : ∃ c, mc.Ok c := by
  obtain ⟨c, ok⟩ := h.ok.ok
  exact ⟨c, h.mc ▸ ok⟩
def SkRel (S : Sto) (p s : Nat) (mc : Mc) (bk : Bool) (id q0 times b10 : Nat) (M : List Nat) (w : World) (k : Nat) (v2 v11 : Value) (wr : World) : Prop :=
  ∃ T xs sn, v2 = .int .i64 (itr (S.stp mc bk id) xs.length q0 : Nat) ∧ v11 = .int .i64 (xs.length : Nat) ∧ xs.length ≤ times ∧ k = sn.count 0 ∧ Way (S.stp mc bk id) q0 xs sn ∧ (∀ c, c < xs.length → S.hit mc bk id (itr (S.stp mc bk id) c q0) = false) ∧ TK S p s mc bk T ∧
    St w M [tabA T, rowsA enc16 153 1 (.slice (some ⟨b10, 0, none⟩) 256 256) sn] wr
def RsRel (S : Sto) (p s : Nat) (mc : Mc) (bk : Bool) (id q0 n r0 : Nat) (M : List Nat) (w : World) (v2 v13 : Value) (wr : World) : Prop :=
  ∃ T r, v13 = .int .i64 (r : Nat) ∧ r ≤ r0 ∧ v2 = .int .i64 (itr (S.stp mc bk id) (n + (r0 - r)) q0 : Nat) ∧ TK S p s mc bk T ∧ St w M [tabA T] wr
theorem skip_t {S : Sto} {lv : Value} {m p s : Nat} {mc : Mc} {bk : Bool} {id q times : Nat} (hS : S.Ok) (hid : id ≤ S.list.length) (hq : q < mc.n) (ht : times ≤ 1152921504606846976) :
    TC S lv m p s mc bk 43 #[.pointer (some ⟨p, 0, none⟩), .int .i64 id, .int .i64 q, .int .i64 times] (.tuple #[.int .i64 (skC (S.stp mc bk id) (S.hit mc bk id) times q : Nat), .int .i64 (itr (S.stp mc bk id) (skC (S.stp mc bk id) (S.hit mc bk id) times q) q : Nat)]) := by
  refine TC.mk fun T w M HT H HK => ?_
  obtain ⟨c, ok⟩ := HT.out.mok
  have hn256 := ok.n256
  have HLT : Hid (∀ k, itr (S.stp mc bk id) k q < mc.n) := Lib.hid fun k => itr_lt (stp_lt ok hS bk hid) hq
  have HE : Hid (∀ q, q < mc.n → TC S lv m p s mc bk 46 #[.pointer (some ⟨p, 0, none⟩), .int .i64 id, .int .i64 q] (.int .i64 (S.stp mc bk id q : Nat))) := Lib.hid fun q hq => send_t hS hid hq
  have HH : Hid (∀ q, q < mc.n → TC S lv m p s mc bk 74 #[.pointer (some ⟨p, 0, none⟩), .int .i64 id, .int .i64 q] (.bool (S.hit mc bk id q))) := Lib.hid fun q hq => hit_t hS hid hq
  clear ok hS hid
  go_enter Try.func43, Try.ntmps43
  go_wp2_with (first | refine sL ?_ | (refine sA ?_; clear H; intro b10 _ H))
  replace H := H.pick (A := blk b10 (.cells (Array.replicate 256 (.int .i16 0)) 153)) pk
  replace H := H.conv (A' := rowsA enc16 153 1 (.slice (some ⟨b10, 0, none⟩) 256 256) (List.replicate 256 0)) (by rw [rowsA_fp', blk_fp]; rfl) fun hb => by
    rw [blk_ho] at hb
    have := rowsA_of_blk (enc := enc16) (k := 1) (xs := List.replicate 256 0) hb (by rw [List.length_replicate]; simp [maxLen]) (by rw [flat_zeros]; simp) enc16_len
    rwa [List.length_replicate] at this
  go_loopg [2, 11] 256 (fun k v2 v11 wr => SkRel S p s mc bk id q times b10 M w k v2 v11 wr)
  case atStart => exact ⟨T, [], List.replicate 256 0, rfl, rfl, Nat.zero_le _, by rw [List.count_replicate_self], Way.start _ _, by simp, HT.out, (H.pick2 (A := tabA T) (B := rowsA enc16 153 1 (.slice (some ⟨b10, 0, none⟩) 256 256) (List.replicate 256 0)) pk pk).onlyTwo⟩
  case round =>
    clear H HT
    obtain ⟨T, xs, sn, rfl, rfl, hle, hk, hway, hno, hT, H⟩ := hrel
    have HT := Lib.hid hT
    have hxl := hway.len
    have hq1 := HLT.out xs.length
    have HWAY := Lib.hid hway
    have HK0 := Lib.hid hk
    have HQ := Lib.hid hq1
    have HNO := Lib.hid hno
    have HHQ := Lib.hid (HH.out _ hq1)
    have HEQ := Lib.hid (HE.out _ hq1)
    clear hway hT hk hno HH
    by_cases hlt : xs.length < times
    · cases hh : S.hit mc bk id (itr (S.stp mc bk id) xs.length q) with
      | true =>
        have hsk : skC (S.stp mc bk id) (S.hit mc bk id) times q = xs.length := skC_eq hlt HNO.out hh
        rw [hh] at HHQ
        have HSK := Lib.hid hsk
        generalize hqq : itr (S.stp mc bk id) xs.length q = q1 at *
        have HQQ := Lib.hid hqq
        clear hsk hh hqq
        go_wp2_with (first | refine sL ?_ | (refine sS ?_; clear H; intro _ H) | (refine sA ?_; clear H; intro _ _ H) | (go_at_call 74; with_reducible refine TC.use (HHQ.out) HT.out H pk ts ?_; clear H; intro T' _ HT H))
        go_ret2
        exact ⟨T', by rw [HSK.out, HQQ.out]; rfl, HT.out, (H.pick (A := tabA T') pk).onlyHead⟩
      | false =>
        rw [hh] at HHQ
        generalize hqq : itr (S.stp mc bk id) xs.length q = q1 at *
        have HQQ := Lib.hid hqq
        have HHF := Lib.hid hh
        have hstp : S.stp mc bk id q1 = itr (S.stp mc bk id) (xs.length + 1) q := by rw [itr_succ, hqq]
        rw [hstp] at HEQ
        clear hqq hh hstp
        obtain ⟨v, hv⟩ : ∃ v, sn[q1]? = some v := ⟨_, List.getElem?_eq_getElem (by rw [HWAY.out.size]; omega)⟩
        have HV := Lib.hid hv
        clear hv
        rcases Nat.eq_zero_or_pos v with h0 | h0
        · subst h0
          go_wp2_with (first | refine sL ?_ | (refine sS ?_; clear H; intro _ H) | (refine sA ?_; clear H; intro _ _ H) | (go_at_call 74; with_reducible refine TC.use (HHQ.out) HT.out H pk ts ?_; clear H; intro T' _ HT H) | (go_at_call 46; with_reducible refine TC.use (HEQ.out) HT.out H pk ts ?_; clear H; intro T' _ HT H) | ((with_reducible refine isLoad ?_); refine AtLoad.cel rfl rfl rfl rfl (rowsA_cell1 (H.get (A := rowsA enc16 153 1 (.slice (some ⟨b10, 0, none⟩) 256 256) sn) pk) enc16_len HV.out rfl) ?_; simp only [Act.put, puA, puB, puC]) | ((with_reducible refine isStore ?_); refine AtStore.rowA (enc := enc16) (n := 256) (c := 256) H rfl rfl rfl rfl rfl rfl pk (xs.length + 1) (by first | rfl | (simp only [enc16]; go_num)) enc16_len ?bd ?_; (case bd => rw [HWAY.out.size]; omega); clear H; intro _ H; simp only [Act.put, puA, puB, puC]))
          obtain ⟨hw2, hc2⟩ := HWAY.out.next HQQ.out.symm (by omega) HV.out
          have hl1 : (xs ++ [q1]).length = xs.length + 1 := by simp
          go_roundg ((sn.set q1 (xs.length + 1)).count 0)
          case measure => rw [HK0.out]; exact hc2
          case rel =>
            refine ⟨T', xs ++ [q1], sn.set q1 (xs.length + 1), by rw [hl1], by rw [hl1]; go_num, by rw [hl1]; omega, rfl, hw2, fun c hc => ?_, HT.out, (H.pick2 (A := tabA T') (B := rowsA enc16 153 1 (.slice (some ⟨b10, 0, none⟩) 256 256) (sn.set q1 (xs.length + 1))) pk pk).onlyTwo⟩
            rw [hl1] at hc
            rcases Nat.lt_or_ge c xs.length with h | h
            · exact HNO.out c h
            · obtain rfl : c = xs.length := by omega
              rw [HQQ.out]
              exact HHF.out
        · obtain ⟨v', rfl⟩ : ∃ v', v = v' + 1 := ⟨v - 1, by omega⟩
          have horb : Orb (S.stp mc bk id) q times xs v' := HWAY.out.met HQQ.out.symm HV.out
          have hsk : skC (S.stp mc bk id) (S.hit mc bk id) times q = times := skC_none (horb.none HNO.out)
          have HSK := Lib.hid hsk
          have hk2 : v' < xs.length ∧ itr (S.stp mc bk id) xs.length q = itr (S.stp mc bk id) v' q := by
            rcases horb.ends with h | h
            · omega
            · exact h
          have HRS := Lib.hid (itr_rest hk2.1 hk2.2 hle)
          have hk3 := hk2.1
          have i1 : (times : Int) - xs.length = ((times - xs.length : Nat) : Int) := by omega
          have i2 : (xs.length : Int) - v' = ((xs.length - v' : Nat) : Int) := by omega
          have i3 : (xs.length : Int) + 1 - ((v' : Int) + 1) = ((xs.length - v' : Nat) : Int) := by omega
          have hz : ((xs.length - v' : Nat) : Int) ≠ 0 := by omega
          have i4 : ((times - xs.length : Nat) : Int).tmod ((xs.length - v' : Nat) : Int) = (((times - xs.length) % (xs.length - v') : Nat) : Int) := by simp [Int.tmod]
          have hrb := Nat.mod_le (times - xs.length) (xs.length - v')
          have hb1 : times - xs.length ≤ 1152921504606846976 := by omega
          have hb2 : xs.length - v' ≤ 256 := by omega
          generalize (times - xs.length) % (xs.length - v') = r0 at *
          generalize xs.length - v' = d0 at *
          generalize times - xs.length = e0 at *
          clear horb hk2 hsk HEQ
          go_wp2_with (first | refine sL ?_ | (refine sS ?_; clear H; intro _ H) | (refine sA ?_; clear H; intro _ _ H) | (go_at_call 74; with_reducible refine TC.use (HHQ.out) HT.out H pk ts ?_; clear H; intro T' _ HT H) | ((with_reducible refine isLoad ?_); refine AtLoad.cel rfl rfl rfl rfl (rowsA_cell1 (H.get (A := rowsA enc16 153 1 (.slice (some ⟨b10, 0, none⟩) 256 256) sn) pk) enc16_len HV.out rfl) ?_; simp only [Act.put, puA, puB, puC]))
          go_loopw [2, 13] (fun v2 v13 wr => RsRel S p s mc bk id q xs.length r0 M w v2 v13 wr) (fun _ v13 _ => (intOf v13).toNat)
          case atStart => exact ⟨T', r0, rfl, Nat.le_refl _, by rw [Nat.sub_self, Nat.add_zero, HQQ.out], HT.out, (H.pick (A := tabA T') pk).onlyHead⟩
          case round =>
            clear H HT
            obtain ⟨T, r, rfl, hr, rfl, hT, H⟩ := hrel
            have HT := Lib.hid hT
            clear hT
            rcases Nat.eq_zero_or_pos r with hr0 | hr0
            · subst hr0
              have hfin : itr (S.stp mc bk id) (xs.length + (r0 - 0)) q = itr (S.stp mc bk id) times q := HRS.out
              rw [hfin]
              generalize hqf : itr (S.stp mc bk id) times q = qf at *
              have HQF := Lib.hid hqf
              clear hqf hfin
              go_wp2_with (first | refine sL ?_ | (refine sS ?_; clear H; intro _ H) | (refine sA ?_; clear H; intro _ _ H))
              go_ret2
              exact ⟨T, by rw [HSK.out, HQF.out]; rfl, HT.out, H⟩
            · obtain ⟨r', rfl⟩ : ∃ r', r = r' + 1 := ⟨r - 1, by omega⟩
              have HEQ := Lib.hid (HE.out _ (HLT.out (xs.length + (r0 - (r' + 1)))))
              have hstp : S.stp mc bk id (itr (S.stp mc bk id) (xs.length + (r0 - (r' + 1))) q) = itr (S.stp mc bk id) (xs.length + (r0 - r')) q := by rw [show xs.length + (r0 - r') = xs.length + (r0 - (r' + 1)) + 1 by omega, itr_succ]
              rw [hstp] at HEQ
              generalize itr (S.stp mc bk id) (xs.length + (r0 - (r' + 1))) q = q2 at *
              generalize hq3 : itr (S.stp mc bk id) (xs.length + (r0 - r')) q = q3 at *
              have HQ3 := Lib.hid hq3
              clear hstp hq3
              go_wp2_with (first | refine sL ?_ | (refine sS ?_; clear H; intro _ H) | (refine sA ?_; clear H; intro _ _ H) | (go_at_call 46; with_reducible refine TC.use (HEQ.out) HT.out H pk ts ?_; clear H; intro T' _ HT H))
              have hrl : RsRel S p s mc bk id q xs.length r0 M w (.int .i64 q3) (.int .i64 r') _ := ⟨T', r', rfl, by omega, by rw [HQ3.out], HT.out, H⟩
              first | exact ⟨hrl, by simp [intOf]⟩ | (refine ⟨?_, by simp [intOf]⟩; (repeat apply Exists.intro); exact ⟨hrl, rfl⟩)
    · have hsk : skC (S.stp mc bk id) (S.hit mc bk id) times q = times := skC_none fun c hc => HNO.out c (by omega)
      have hxt : xs.length = times := by omega
      have HSK := Lib.hid hsk
      rw [hxt]
      generalize hqq : itr (S.stp mc bk id) times q = q1 at *
      have HQQ := Lib.hid hqq
      clear hsk hxt hqq
      go_wp2_with (first | refine sL ?_ | (refine sS ?_; clear H; intro _ H) | (refine sA ?_; clear H; intro _ _ H))
      go_ret2
      exact ⟨T, by rw [HSK.out, HQQ.out]; rfl, HT.out, (H.pick (A := tabA T) pk).onlyHead⟩
end Go.Proofs.Ytijnhpaafhcndaa
end
section
namespace Go.Proofs.Ytijnhpaafhcndaa
open Go.RowKit Go.Maps
attribute [local go_sem] InGr
set_option maxHeartbeats 4000000
set_option maxRecDepth 100000
set_option linter.unusedSimpArgs false
set_option linter.unusedVariables false
section
variable {S : Sto} {lv : Value} {m p s : Nat} {mc : Mc} {bk : Bool}
theorem rule_t {i : Nat} {x : En} {kd lt lf rt tm : Nat} (hx : S.list[i]? = some x) (he : ruleL x.r = [.int .i64 (kd : Nat), .int .u8 (lt : Nat), .int .i64 (lf : Nat), .int .i64 (rt : Nat), .int .i64 (tm : Nat)]) : TQ S lv m p s mc bk 45 #[.pointer (some ⟨s, 0, none⟩), .int .i64 ((i : Int) + 1)] (.tuple #[.agg #[.int .i64 (kd : Nat), .int .u8 (lt : Nat), .int .i64 (lf : Nat), .int .i64 (rt : Nat), .int .i64 (tm : Nat)], .nilIface]) := fun T w hT h1 h2 => by
  have := rule_c hx ((i : Int) + 1) rfl w h2
  have e : (.agg #[.int .i64 x.r.kind, .int .u8 x.r.letter, .int .i64 x.r.left, .int .i64 x.r.right, .int .i64 x.r.times] : Value) = .agg #[.int .i64 (kd : Nat), .int .u8 (lt : Nat), .int .i64 (lf : Nat), .int .i64 (rt : Nat), .int .i64 (tm : Nat)] := congrArg (fun l => Value.agg l.toArray) he
  rw [← e]
  exact this
theorem send_s {i q : Nat} (hS : S.Ok) (hi : i < S.list.length) (hq : q < mc.n) : TC S lv m p s mc bk 46 #[.pointer (some ⟨p, 0, none⟩), .int .i64 ((i : Int) + 1), .int .i64 q] (.int .i64 (mc.ends q (S.dtx bk (i + 1)) : Nat)) := send_t hS hi hq
theorem ssize_s {i : Nat} (hS : S.Ok) (hi : i < S.list.length) : TQ S lv m p s mc bk 36 #[.pointer (some ⟨p, 0, none⟩), .int .i64 ((i : Int) + 1)] (.int .i64 ((S.txt (i + 1)).length : Nat)) := ssize_t hS (id := i + 1) hi
theorem skip_s {i q times : Nat} (hS : S.Ok) (hi : i < S.list.length) (hq : q < mc.n) (ht : times ≤ 1152921504606846976) :
    TC S lv m p s mc bk 43 #[.pointer (some ⟨p, 0, none⟩), .int .i64 ((i : Int) + 1), .int .i64 q, .int .i64 times] (.tuple #[.int .i64 (skC (S.stp mc bk (i + 1)) (S.hit mc bk (i + 1)) times q : Nat), .int .i64 (itr (S.stp mc bk (i + 1)) (skC (S.stp mc bk (i + 1)) (S.hit mc bk (i + 1)) times q) q : Nat)]) := skip_t hS hi hq ht
end
inductive DCase (S : Sto) (bk : Bool) (i : Nat) : Nat → Nat → Nat → Nat → Nat → Prop
  | letter (b : Nat) (hb : b < 256) (h : S.dtx bk (i + 1) = [b]) : DCase S bk i 1 b 0 0 0
  | pair (l r a b : Nat) (hl : l + 1 ≤ S.list.length) (hr : r + 1 ≤ S.list.length) (ha : a < i) (hb : b < i) (hv : (bk = false ∧ a = l ∧ b = r) ∨ (bk = true ∧ a = r ∧ b = l)) (h : S.dtx bk (i + 1) = S.dtx bk (a + 1) ++ S.dtx bk (b + 1)) : DCase S bk i 2 0 (l + 1) (r + 1) 0
  | power (l k : Nat) (hl : l < i) (hk : 2 ≤ k) (hm : k ≤ 1152921504606846976) (h : S.dtx bk (i + 1) = rep k (S.dtx bk (l + 1))) : DCase S bk i 3 0 (l + 1) 0 k
theorem dcase {S : Sto} (hS : S.Ok) (bk : Bool) {i : Nat} (hi : i < S.list.length) : ∃ x kd lt lf rt tm, S.list[i]? = some x ∧ ruleL x.r = [.int .i64 (kd : Nat), .int .u8 (lt : Nat), .int .i64 (lf : Nat), .int .i64 (rt : Nat), .int .i64 (tm : Nat)] ∧ DCase S bk i kd lt lf rt tm := by
  obtain ⟨x, hx⟩ : ∃ x, S.list[i]? = some x := ⟨S.list[i], by simp⟩
  have hent := hS.ents i x hx
  cases hent with
  | letter b hb => exact ⟨_, 1, b, 0, 0, 0, hx, rfl, .letter b hb (by unfold Sto.dtx; rw [S.txt_letter hx, dirT_one])⟩
  | pair l r y y2 hl1 hr1 hy1 hy2 hle =>
    refine ⟨_, 2, 0, l + 1, r + 1, 0, hx, rfl, ?_⟩
    cases bk with
    | false => exact .pair l r l r (by omega) (by omega) hl1 hr1 (.inl ⟨rfl, rfl, rfl⟩) (by unfold Sto.dtx; rw [S.txt_pair hl1 hr1 hx]; rfl)
    | true => exact .pair l r r l (by omega) (by omega) hr1 hl1 (.inr ⟨rfl, rfl, rfl⟩) (by unfold Sto.dtx dirT; rw [S.txt_pair hl1 hr1 hx]; simp)
  | power l k y hl1 hy1 hk hle => exact ⟨_, 3, 0, l + 1, 0, k, hx, rfl, .power l k hl1 hk (power_le hS (tid := l + 1) hx) (by unfold Sto.dtx; rw [S.txt_power hl1 hx, dirT_rep])⟩
end Go.Proofs.Ytijnhpaafhcndaa
end
section
namespace Go.Proofs.Ytijnhpaafhcndaa
open Go.RowKit Go.Maps
attribute [local go_sem] InGr
set_option maxHeartbeats 4000000
set_option maxRecDepth 100000
set_option linter.unusedSimpArgs false
set_option linter.unusedVariables false
def TX (X : As) (S : Sto) (lv : Value) (m p s : Nat) (mc : Mc) (bk : Bool) (f : FuncId) (args : Array Value) (v : Value) : Prop :=
  ∀ T w, TK S p s mc bk T → ((tabA T).sep (stoA s lv m S)).ho w → ((tabA T).sep X).ho w → Calls Try.prog f args w (TPost S p s mc bk v w (tabA T).fp)
section
variable {X : As} {S : Sto} {lv : Value} {m p s : Nat} {mc : Mc} {bk : Bool} {f : FuncId} {args : Array Value} {v : Value} {T : Tab} {w w0 : World} {M : List Nat} {L R K : List As}
theorem TX.mk (k : ∀ T w M, Hid (TK S p s mc bk T) → St w M [tabA T] w → Ks w M [stoA s lv m S, X] → Calls Try.prog f args w (TPost S p s mc bk v w M)) : TX X S lv m p s mc bk f args v := fun T w hT h hX => by
  rw [sep_ho] at h hX
  obtain ⟨h1, h2, hd⟩ := h
  obtain ⟨_, h3, hd3⟩ := hX
  exact k T w _ (Lib.hid hT) (St.one h1) ⟨by simp [h2, h3], by simpa using ⟨fun b hb hm => hd b hm hb, fun b hb hm => hd3 b hm hb⟩⟩
theorem TX.use (hc : TX X S lv m p s mc bk f args v) (hT : TK S p s mc bk T) (H : St w0 M L w) (hp : Pick L (tabA T) R) (hs : ((tabA T).sep (stoA s lv m S)).ho w) (hX : ((tabA T).sep X).ho w) {Q : Ending → World → Prop} (k : ∀ T' w', Hid (TK S p s mc bk T') → St w0 M (tabA T' :: R) w' → Q (.returned v) w') : Calls Try.prog f args w Q := by
  refine (hc T w hT hs hX).mono ?_
  rintro e w' ⟨T', rfl, hT', hst⟩
  exact k T' w' (Lib.hid hT') (by simpa using (H.pick hp).call hst)
end
abbrev ptsA (ad : Option Addr) (c : Nat) (lp : List Pt) : As := rowsA encT 135 3 (.slice ad lp.length c) lp
def TP (S : Sto) (lv : Value) (m p s : Nat) (mc : Mc) (bk : Bool) (f : FuncId) (args : Array Value) (l : List Nat) : Prop :=
  ∀ T w, TK S p s mc bk T → ((tabA T).sep (stoA s lv m S)).ho w → Calls Try.prog f args w fun e w' => ∃ ad c lp, e = .returned (.slice ad lp.length c) ∧ runP S bk lp = l ∧ (∀ t ∈ lp, PtOk S (fun _ => True) t) ∧ St w [] [ptsA ad c lp] w'
section
variable {S : Sto} {lv : Value} {m p s : Nat} {mc : Mc} {bk : Bool} {f : FuncId} {args : Array Value} {l : List Nat} {T : Tab} {w w0 : World} {M : List Nat} {L R K : List As}
theorem TP.use (hc : TP S lv m p s mc bk f args l) (hT : TK S p s mc bk T) (H : St w0 M L w) (hs : ((tabA T).sep (stoA s lv m S)).ho w) {Q : Ending → World → Prop} (k : ∀ ad c lp w', Hid (runP S bk lp = l ∧ ∀ t ∈ lp, PtOk S (fun _ => True) t) → St w0 M (ptsA ad c lp :: L) w' → Q (.returned (.slice ad lp.length c)) w') : Calls Try.prog f args w Q := by
  refine (hc T w hT hs).mono ?_
  rintro e w' ⟨ad, c, lp, rfl, h1, h2, hst⟩
  exact k ad c lp w' (Lib.hid ⟨h1, h2⟩) (by simpa using H.call0 hst)
end
end Go.Proofs.Ytijnhpaafhcndaa
end
section
namespace Go.Proofs.Ytijnhpaafhcndaa
open Go.RowKit Go.Maps
attribute [local go_sem] InGr
set_option maxHeartbeats 4000000
set_option maxRecDepth 100000
set_option linter.unusedSimpArgs false
set_option linter.unusedVariables false
section
variable {S : Sto} {lv : Value} {m p s : Nat} {mc : Mc} {bk : Bool} {T : Tab} {w w0 : World} {M : List Nat} {L R : List As}
def TO (S : Sto) (lv : Value) (m p s : Nat) (mc : Mc) (bk : Bool) (f : FuncId) (args : Array Value) (g : Nat → Nat) (q times : Nat) : Prop :=
  ∀ T w, TK S p s mc bk T → ((tabA T).sep (stoA s lv m S)).ho w → Calls Try.prog f args w fun e w' => ∃ T' ad c xs tail, e = .returned (.agg #[.slice ad xs.length c, .int .i64 (tail : Nat)]) ∧ Orb g q times xs tail ∧ TK S p s mc bk T' ∧ St w (tabA T).fp [tabA T', rowsA encI 3 1 (.slice ad xs.length c) xs] w'
theorem TO.use {f : FuncId} {args : Array Value} {g : Nat → Nat} {q times : Nat} (hc : TO S lv m p s mc bk f args g q times) (hT : TK S p s mc bk T) (H : St w0 M L w) (hp : Pick L (tabA T) R) (hs : ((tabA T).sep (stoA s lv m S)).ho w) {Q : Ending → World → Prop} (k : ∀ T' ad c xs tail w', Hid (TK S p s mc bk T') → Hid (Orb g q times xs tail) → St w0 M (tabA T' :: rowsA encI 3 1 (.slice ad xs.length c) xs :: R) w' → Q (.returned (.agg #[.slice ad xs.length c, .int .i64 (tail : Nat)])) w') : Calls Try.prog f args w Q := by
  refine (hc T w hT hs).mono ?_
  rintro e w' ⟨T', ad, c, xs, tail, rfl, ho, hT', hst⟩
  exact k T' ad c xs tail w' (Lib.hid hT') (Lib.hid ho) (by simpa using (H.pick hp).call hst)
end
end Go.Proofs.Ytijnhpaafhcndaa
end
section
namespace Go.Proofs.Ytijnhpaafhcndaa
open Go.RowKit Go.Maps
attribute [local go_sem] InGr
set_option maxHeartbeats 4000000
set_option maxRecDepth 100000
set_option linter.unusedSimpArgs false
set_option linter.unusedVariables false
end Go.Proofs.Ytijnhpaafhcndaa
end
section
namespace Go.Proofs.Ytijnhpaafhcndaa
open Go.RowKit Go.Maps
attribute [local go_sem] InGr
set_option maxHeartbeats 8000000
set_option maxRecDepth 100000
set_option linter.unusedSimpArgs false
set_option linter.unusedVariables false
theorem TQ.at {S : Sto} {lv : Value} {m p s : Nat} {mc : Mc} {bk : Bool} {f : FuncId} {args : Array Value} {v : Value} {T : Tab} {w : World} (hc : TQ S lv m p s mc bk f args v) (hT : TK S p s mc bk T) (h1 : (tabA T).ho w) (h2 : (stoA s lv m S).ho w) : Calls Try.prog f args w fun e w' => e = .returned v ∧ St w [] [] w' := hc T w hT h1 h2
end Go.Proofs.Ytijnhpaafhcndaa
end
section
namespace Go.Proofs.Ytijnhpaafhcndaa
open Go.RowKit Go.Maps
attribute [local go_sem] InGr
set_option maxHeartbeats 8000000
set_option maxRecDepth 100000
set_option linter.unusedSimpArgs false
set_option linter.unusedVariables false
section
variable {S : Sto} {lv : Value} {m p s : Nat} {mc : Mc} {bk : Bool} {T : Tab} {w w0 : World} {M : List Nat} {L R : List As}
theorem check_t {id : Nat} (hid : id ≤ S.list.length) : TQ S lv m p s mc false 34 #[.pointer (some ⟨p, 0, none⟩), .int .i64 id] .nilIface := fun T w hT h1 h2 => by
  obtain ⟨ok, rfl, rfl, rfl, hb⟩ := hT
  refine (lcheck_c ok hb hid w h1 h2).mono ?_
  rintro e w' ⟨he, rfl⟩
  exact ⟨he, St.nil _ _⟩
theorem machine_use (hT : TK S p s mc bk T) (H : St w0 M L w) (hp : Pick L (tabA T) R) {Q : Ending → World → Prop} (k : ∀ g1 o1 c1 g2 o2 c2 g3 o3 c3 w', St w0 M L w' → Q (.returned (.agg #[.int .i64 mc.start, .slice (some ⟨g1, o1, none⟩) 256 c1, .slice (some ⟨g2, o2, none⟩) mc.n c2, .slice (some ⟨g3, o3, none⟩) mc.n c3])) w') : Calls Try.prog 39 #[.pointer (some ⟨p, 0, none⟩)] w Q := by
  obtain ⟨ok, rfl, rfl, rfl, rfl⟩ := hT
  obtain ⟨cm, okm⟩ := ok.ok
  refine Calls.mono (machine_c ok w (H.get hp)) ?_
  rintro e w' ⟨cv, nv, av, rvs, P, rfl, hm, hs⟩
  obtain ⟨g1, o1, c1, rfl, _⟩ := hm.cls.hasN okm.cls (by omega)
  obtain ⟨g2, o2, c2, rfl, _⟩ := hm.next.hasN hm.len okm.n1
  obtain ⟨g3, o3, c3, rfl, _⟩ := hm.acc.hasN okm.acc okm.n1
  exact k _ _ _ _ _ _ _ _ _ _ (H.grew hs.below)
end
def Sto.nx (S : Sto) (mc : Mc) (id a : Nat) : Nat := mc.fst (mc.ends mc.start ((S.txt id).take a)) ((S.txt id).drop a)
def refV (hs : List Nat) (a : Nat) : Nat := if hitF (hs.drop a) = 0 then 0 else a + hitF (hs.drop a)
theorem hnext_c {hs : List Nat} {v : Value} {a : Nat} (hb : ∀ x ∈ hs, x ≤ 1048576) (hlen : hs.length ≤ 300) (ha : a ≤ hs.length) (w : World) (hrow : (rowsA encI 3 1 v hs).ho w) :
    Calls Try.prog 16 #[v, .int .i64 a] w fun e w' => e = .returned (.int .i64 (refV hs a : Nat)) ∧ St w [] [] w' := by
  have H := St.nil w []
  have HK := Ks.one hrow
  obtain ⟨ad, c, rfl, hmx⟩ := rowsA_shape hrow
  have HR : Hid (∀ k x, hs[k]? = some x → ∃ g, ad = some ⟨g, 0, none⟩) := Lib.hid fun k x hx => by
    obtain ⟨g, c', h1, _⟩ := rowsA_cases hrow (by have := getElem_len hx; omega)
    injection h1 with e1 e2 e3
    exact ⟨g, e1⟩
  have HB := Lib.hid hb
  clear hb hrow
  go_enter Try.func16, Try.ntmps16
  go_wp2_with (first | refine sL ?_)
  go_loopw [5] (fun v5 wr => ∃ k : Nat, v5 = .int .i64 (k : Nat) ∧ k ≤ hs.length ∧ refV hs a = refV hs k ∧ St w [] [] wr) (fun v5 _ => hs.length - (intOf v5).toNat)
  case atStart => exact ⟨a, rfl, ha, rfl, H⟩
  case round =>
    clear H
    obtain ⟨k, rfl, hk, hrv, H⟩ := hrel
    have HRV := Lib.hid hrv
    clear hrv
    by_cases hlt : k < hs.length
    · obtain ⟨x, hx⟩ : ∃ x, hs[k]? = some x := ⟨_, List.getElem?_eq_getElem hlt⟩
      obtain ⟨g, rfl⟩ := HR.out _ _ hx
      have hxb := HB.out x (List.mem_of_getElem? hx)
      have HX := Lib.hid hx
      have hd : hs.drop k = x :: hs.drop (k + 1) := by
        obtain ⟨h1, h2⟩ := List.getElem?_eq_some_iff.1 hx
        rw [← h2]
        exact List.drop_eq_getElem_cons h1
      clear hx
      by_cases hp : 0 < x
      · have d1 : decide ((0 : Int) < x) = true := by simp; omega
        have hr : refV hs k = k + 1 := by unfold refV; rw [hd, hitF]; simp [hp]
        have HRS := Lib.hid (HRV.out.trans hr)
        clear hd hr
        go_wp2_with (first | refine sL ?_ | ((with_reducible refine isLoad ?_); refine AtLoad.cel rfl rfl rfl rfl (rowsA_cell1 (H.known HK (A := rowsA encI 3 1 (.slice (some ⟨g, 0, none⟩) hs.length c) hs) pk) encI_len HX.out rfl) ?_; simp only [Act.put, puA, puB, puC]))
        go_ret
        exact ⟨by rw [HRS.out]; rfl, H⟩
      · have d1 : decide ((0 : Int) < x) = false := by simp; omega
        have hr : refV hs k = refV hs (k + 1) := by
          unfold refV; rw [hd, hitF, if_neg hp]
          split <;> simp_all <;> omega
        have HRS := Lib.hid (HRV.out.trans hr)
        clear hd hr
        go_wp2_with (first | refine sL ?_ | ((with_reducible refine isLoad ?_); refine AtLoad.cel rfl rfl rfl rfl (rowsA_cell1 (H.known HK (A := rowsA encI 3 1 (.slice (some ⟨g, 0, none⟩) hs.length c) hs) pk) encI_len HX.out rfl) ?_; simp only [Act.put, puA, puB, puC]))
        exact ⟨⟨k + 1, by go_num, by omega, HRS.out, H⟩, by simp [intOf] <;> omega⟩
    · obtain rfl : k = hs.length := by omega
      have hr : refV hs hs.length = 0 := by unfold refV; rw [List.drop_length]; rfl
      have HRS := Lib.hid (HRV.out.trans hr)
      clear hr
      go_wp2_with (first | refine sL ?_)
      go_ret
      exact ⟨by rw [HRS.out]; rfl, H⟩
end Go.Proofs.Ytijnhpaafhcndaa
end
section
namespace Go.Proofs.Ytijnhpaafhcndaa
open Go.RowKit Go.Maps
set_option maxHeartbeats 4000000
set_option maxRecDepth 100000
set_option linter.unusedSimpArgs false
set_option linter.unusedVariables false
theorem flatG_set {α : Type} {enc : α → List Value} {k : Nat} (hk : ∀ x, (enc x).length = k) {j : Nat} (hj : j < k) {u : Value} {z : α} : ∀ {xs : List α} {i : Nat} {x0 : α}, xs[i]? = some x0 → enc z = (enc x0).set j u → flatG enc (xs.set i z) = (flatG enc xs).set (i * k + j) u
  | [], i, x0, h, _ => by simp at h
  | x :: r, 0, x0, h, hz => by
    have : x = x0 := by simpa using h
    subst this
    simp only [List.set_cons_zero, Nat.zero_mul, Nat.zero_add]
    show enc z ++ flatG enc r = (enc x ++ flatG enc r).set j u
    rw [List.set_append_left _ _ (by rw [hk]; exact hj), hz]
  | x :: r, i + 1, x0, h, hz => by
    have ih := flatG_set hk hj (xs := r) (i := i) (by simpa using h) hz
    show enc x ++ flatG enc (r.set i z) = (enc x ++ flatG enc r).set ((i + 1) * k + j) u
    rw [List.set_append_right _ _ (by rw [hk]; have : (i + 1) * k = i * k + k := Nat.succ_mul i k; omega), ih, hk]
    congr 2
    have : (i + 1) * k = i * k + k := Nat.succ_mul i k
    omega
section
variable {ops : Array Oper} {Q : Exit → Act → World → Prop} {rest : List Oper} {a : Act} {w w0 : World} {M : List Nat} {L R : List As} {o1 : Oper}
theorem AtStore.rowAk {α : Type} {enc : α → List Value} {e ty : TypeId} {x y : Operand} {k g n c i j b : Nat} {xs : List α} (H : St w0 M L w) (hw : Region.wanted o1 (yielded ops a.tmps) = true) (ho : o1.op = .store ty x y) (hx : a.eval x = .pointer (some ⟨g, b, none⟩)) {u : Value} (hr : isCellT ty = true) (hy : evalO a y = some u) (h1 : u.oneCell' = true)
    (hp : Pick L (rowsA enc e k (.slice (some ⟨g, 0, none⟩) n c) xs) R) (hk : ∀ x, (enc x).length = k) {x0 : α} (hi : xs[i]? = some x0) (hj : j < k) (hb : b = i * k + j) (z : α) (hz : enc z = (enc x0).set j u)
    (h : ∀ w', St w0 M (rowsA enc e k (.slice (some ⟨g, 0, none⟩) n c) (xs.set i z) :: R) w' → wpList Try.prog ops Q rest (a.put o1.dst undef) w') : AtStore Try.prog ops Q o1 ty x y rest a w := by
  have H' := H.pick hp
  have hil : i < xs.length := (List.getElem?_eq_some_iff.1 hi).1
  have hown := H'.ho _ List.mem_cons_self
  rw [rowsA_ho] at hown
  obtain ⟨hlen, hown⟩ := hown
  rcases hown with ⟨h', _⟩ | ⟨g', cap, cs, h', _, hg, h5, h7, h6, h8⟩
  · cases h'
  · injection h' with e1 e2 e3
    injection e1 with e1
    injection e1 with e1
    subst e1 e2 e3
    have H2 : St w0 M (blk g (.cells cs e) :: R) w := H'.conv (by rw [rowsA_fp', blk_fp]; rfl) fun _ => by rw [blk_ho]; exact hg
    have hbl : b < cs.size := by
      have h9 : (i + 1) * k ≤ xs.length * k := Nat.mul_le_mul_right k hil
      have h10 : (i + 1) * k = i * k + k := Nat.succ_mul i k
      have h11 := congrArg List.length h8
      rw [flatG_len enc k hk, List.length_take] at h11
      have h12 : cs.toList.length = cs.size := rfl
      omega
    refine AtStore.cell H2 hw ho hx hy h1 (cellTy_size (isCellT_ok hr)) Upd.here hbl rfl fun w' H3 => h w' ?_
    refine H3.conv (by rw [rowsA_fp', blk_fp]; rfl) fun hb' => ?_
    rw [blk_ho] at hb'
    rw [rowsA_ho]
    refine ⟨by rw [flatG_len enc k hk], .inr ⟨g, c, cs.setIfInBounds b u, by rw [List.length_set], Nat.zero_le _, hb', by rw [List.length_set]; exact h5, h7, by simpa using h6, ?_⟩⟩
    rw [Array.toList_setIfInBounds, List.length_set, List.take_set, h8, flatG_set hk hj hi hz, hb]
end
def ends : List Nat → Nat → List (Nat × Nat)
  | [], _ => []
  | x :: r, b => if 0 < x then (b + 1, x) :: ends r (b + 1) else ends r (b + 1)
theorem zends_append : ∀ (a b : List Nat) (s : Nat), ends (a ++ b) s = ends a s ++ ends b (s + a.length)
  | [], b, s => rfl
  | x :: a, b, s => by
    have ih := zends_append a b (s + 1)
    rw [List.cons_append, ends, ends, ih, List.length_cons, show s + 1 + a.length = s + (a.length + 1) by omega]
    split <;> rfl
theorem ends_zero : ∀ {a : List Nat} (s : Nat), a.sum = 0 → ends a s = []
  | [], s, _ => rfl
  | x :: a, s, h => by
    rw [List.sum_cons] at h
    rw [ends, if_neg (by omega), ends_zero (s + 1) (by omega)]
def stkT (S : Sto) (st : List (Nat × Nat)) : List Nat := (st.reverse.map fun p => rep p.2 (S.txt p.1)).flatten
theorem stkT_snoc (S : Sto) (st : List (Nat × Nat)) (p : Nat × Nat) : stkT S (st ++ [p]) = rep p.2 (S.txt p.1) ++ stkT S st := by simp [stkT]
def wE (S : Sto) (id : Nat) : Nat := 2 * (S.txt id).length - 1
def stkM (S : Sto) : List (Nat × Nat) → Nat
  | [] => 0
  | p :: r => p.2 * wE S p.1 + stkM S r
theorem stkM_append (S : Sto) : ∀ a b, stkM S (a ++ b) = stkM S a + stkM S b
  | [], b => by simp [stkM]
  | p :: a, b => by rw [List.cons_append, stkM, stkM, stkM_append S a b]; omega
theorem stkM_one (S : Sto) (id t : Nat) : stkM S [(id, t)] = t * wE S id := by simp [stkM]
structure AInv (S : Sto) (mc : Mc) (XS : List (Nat × Nat)) (id0 q at_ : Nat) (st : List (Nat × Nat)) (pre : List (Nat × Nat)) : Prop where
  txt : pre ++ ends (mc.hits q (stkT S st)) at_ = XS
  len : at_ + (stkT S st).length ≤ 1152921504606846976
  lt : q < mc.n
  ent : ∀ p ∈ st, 1 ≤ p.1 ∧ p.1 ≤ S.list.length ∧ 1 ≤ p.2 ∧ p.2 ≤ 1152921504606846976
  pos : ∀ j p, st[j]? = some p → j + 2 * p.1 ≤ 2 * id0
structure AHit (S : Sto) (mc : Mc) (XS : List (Nat × Nat)) (id0 q at_ : Nat) (st : List (Nat × Nat)) (pre : List (Nat × Nat)) (id : Nat) (m : Nat) : Prop where
  txt : pre ++ ends (mc.hits q (S.txt id ++ stkT S st)) at_ = XS
  len : at_ + (S.txt id).length + (stkT S st).length ≤ 1152921504606846976
  lt : q < mc.n
  hit : 0 < mc.sum q (S.txt id)
  ent : ∀ p ∈ st, 1 ≤ p.1 ∧ p.1 ≤ S.list.length ∧ 1 ≤ p.2 ∧ p.2 ≤ 1152921504606846976
  pos : ∀ j p, st[j]? = some p → j + 2 * p.1 ≤ 2 * id0
  top : st.length + 2 * id ≤ 2 * id0 + 1
  cost : stkM S st + wE S id ≤ m
section
variable {S : Sto} {mc : Mc} {XS : List (Nat × Nat)} {id0 q at_ id t : Nat} {st pre : List (Nat × Nat)}
theorem pos_snoc {id0 : Nat} {st : List (Nat × Nat)} {p : Nat × Nat} (h : ∀ j p, st[j]? = some p → j + 2 * p.1 ≤ 2 * id0) (hp : st.length + 2 * p.1 ≤ 2 * id0) : ∀ j p', (st ++ [p])[j]? = some p' → j + 2 * p'.1 ≤ 2 * id0 := fun j p' hj => by
  rcases Nat.lt_trichotomy j st.length with h1 | h1 | h1
  · rw [List.getElem?_append_left h1] at hj
    exact h j p' hj
  · subst h1
    rw [List.getElem?_append_right (Nat.le_refl _), Nat.sub_self] at hj
    have : p = p' := by simpa using hj
    subst this
    exact hp
  · rw [List.getElem?_append_right (by omega)] at hj
    have : j - st.length = (j - st.length - 1) + 1 := by omega
    rw [this] at hj
    simp at hj
theorem pos_init {id0 : Nat} {st : List (Nat × Nat)} {p : Nat × Nat} (h : ∀ j p', (st ++ [p])[j]? = some p' → j + 2 * p'.1 ≤ 2 * id0) : (∀ j p', st[j]? = some p' → j + 2 * p'.1 ≤ 2 * id0) ∧ st.length + 2 * p.1 ≤ 2 * id0 :=
  ⟨fun j p' hj => h j p' (by rw [List.getElem?_append_left (List.getElem?_eq_some_iff.1 hj).1]; exact hj), h st.length p (by simp)⟩
theorem AInv.none (h : AInv S mc XS id0 q at_ (st ++ [(id, t)]) pre) (hn : itr (S.stp mc false id) t q < mc.n) (hs : mc.sum q (rep t (S.txt id)) = 0) : AInv S mc XS id0 (itr (S.stp mc false id) t q) (at_ + t * (S.txt id).length) st pre ∧ stkM S st + t * wE S id = stkM S (st ++ [(id, t)]) := by
  obtain ⟨h1, h2, h3, h4, h5⟩ := h
  rw [stkT_snoc] at h1 h2
  simp only at h1 h2
  rw [List.length_append, rep_len] at h2
  have he : mc.ends q (rep t (S.txt id)) = itr (S.stp mc false id) t q := ends_rep ..
  rw [Mc.hits_append, zends_append, ends_zero _ (by rw [Mc.hits_sum]; exact hs), Mc.hits_len, rep_len, he, List.nil_append] at h1
  exact ⟨⟨h1, by omega, hn, fun p hp => h4 p (List.mem_append_left _ hp), (pos_init h5).1⟩, by rw [stkM_append, stkM_one]⟩
theorem AInv.hit {c : Nat} {st' : List (Nat × Nat)} (h : AInv S mc XS id0 q at_ (st ++ [(id, t)]) pre) (hn : itr (S.stp mc false id) c q < mc.n) (hc : c < t) (hs : mc.sum q (rep c (S.txt id)) = 0) (hh : 0 < mc.sum (itr (S.stp mc false id) c q) (S.txt id))
    (hst : (st' = st ∧ t - c - 1 = 0) ∨ (st' = st ++ [(id, t - c - 1)] ∧ 0 < t - c - 1)) : AHit S mc XS id0 (itr (S.stp mc false id) c q) (at_ + c * (S.txt id).length) st' pre id (stkM S (st ++ [(id, t)])) := by
  obtain ⟨h1, h2, h3, h4, h5⟩ := h
  obtain ⟨p1, p2⟩ := pos_init h5
  simp only at p2
  have hent := h4 (id, t) (by simp)
  have hT : stkT S st' = rep (t - c - 1) (S.txt id) ++ stkT S st := by
    rcases hst with ⟨rfl, h0⟩ | ⟨rfl, _⟩
    · rw [h0, rep_zero]; rfl
    · rw [stkT_snoc]
  have hrep : rep t (S.txt id) = rep c (S.txt id) ++ (S.txt id ++ rep (t - c - 1) (S.txt id)) := by
    have : rep (c + (1 + (t - c - 1))) (S.txt id) = _ := rep_add c (1 + (t - c - 1)) (S.txt id)
    rw [rep_add 1, rep_one] at this
    rwa [show c + (1 + (t - c - 1)) = t by omega] at this
  have he : mc.ends q (rep c (S.txt id)) = itr (S.stp mc false id) c q := ends_rep ..
  rw [stkT_snoc] at h1 h2
  simp only at h1 h2
  rw [hrep, List.append_assoc, List.append_assoc, ← hT] at h1 h2
  rw [Mc.hits_append, zends_append, ends_zero _ (by rw [Mc.hits_sum]; exact hs), Mc.hits_len, rep_len, he, List.nil_append] at h1
  rw [List.length_append, List.length_append, rep_len] at h2
  refine ⟨h1, by omega, hn, hh, ?_, ?_, ?_, ?_⟩
  · intro p hp
    rcases hst with ⟨rfl, h0⟩ | ⟨rfl, h0⟩
    · exact h4 p (List.mem_append_left _ hp)
    · rcases List.mem_append.1 hp with hp | hp
      · exact h4 p (List.mem_append_left _ hp)
      · have : p = (id, t - c - 1) := by simpa using hp
        subst this
        simp only at hent ⊢
        omega
  · rcases hst with ⟨rfl, h0⟩ | ⟨rfl, h0⟩
    · exact p1
    · exact pos_snoc p1 p2
  · rcases hst with ⟨rfl, h0⟩ | ⟨rfl, h0⟩
    · omega
    · simp; omega
  · rw [stkM_append, stkM_one]
    have hw : (t - c - 1) * wE S id + wE S id ≤ t * wE S id := by
      have : (t - c - 1 + 1) * wE S id ≤ t * wE S id := Nat.mul_le_mul_right _ (by omega)
      rwa [Nat.succ_mul] at this
    rcases hst with ⟨rfl, h0⟩ | ⟨rfl, h0⟩
    · rw [h0] at hw; omega
    · rw [stkM_append, stkM_one]; omega
variable {m : Nat}
theorem AHit.pair {l r : Nat} (h : AHit S mc XS id0 q at_ st pre id m) (ht : S.txt id = S.txt l ++ S.txt r) (hl : l < id) (hr : r < id) (hl1 : 1 ≤ l) (hr1 : 1 ≤ r) (hid : id ≤ S.list.length) (hll : 1 ≤ (S.txt l).length) (hrl : 1 ≤ (S.txt r).length) : AInv S mc XS id0 q at_ (st ++ [(r, 1)] ++ [(l, 1)]) pre ∧ stkM S (st ++ [(r, 1)] ++ [(l, 1)]) < m := by
  obtain ⟨h1, h2, h3, h4, h5, h6, h7, h8⟩ := h
  have hT : stkT S (st ++ [(r, 1)] ++ [(l, 1)]) = S.txt id ++ stkT S st := by
    rw [stkT_snoc, stkT_snoc, rep_one, rep_one, ht, List.append_assoc]
  have hw := congrArg List.length ht
  rw [List.length_append] at hw
  refine ⟨⟨by rw [hT]; exact h1, by rw [hT, List.length_append]; omega, h3, ?_, pos_snoc (pos_snoc h6 (by simp only; omega)) (by simp only [List.length_append, List.length_singleton]; omega)⟩, ?_⟩
  · intro p hp
    simp only [List.mem_append, List.mem_singleton] at hp
    rcases hp with (hp | rfl) | rfl
    · exact h5 p hp
    · simp only; omega
    · simp only; omega
  · rw [stkM_append, stkM_append, stkM_one, stkM_one]
    unfold wE at h8 ⊢
    omega
theorem AHit.power {l k : Nat} (h : AHit S mc XS id0 q at_ st pre id m) (ht : S.txt id = rep k (S.txt l)) (hl : l < id) (hl1 : 1 ≤ l) (hid : id ≤ S.list.length) (hll : 1 ≤ (S.txt l).length) (hk : 2 ≤ k) (hkm : k ≤ 1152921504606846976) : AInv S mc XS id0 q at_ (st ++ [(l, k)]) pre ∧ stkM S (st ++ [(l, k)]) < m := by
  obtain ⟨h1, h2, h3, h4, h5, h6, h7, h8⟩ := h
  have hT : stkT S (st ++ [(l, k)]) = S.txt id ++ stkT S st := by rw [stkT_snoc, ht]
  have hw := congrArg List.length ht
  rw [rep_len] at hw
  refine ⟨⟨by rw [hT]; exact h1, by rw [hT, List.length_append]; omega, h3, ?_, pos_snoc h6 (by simp only; omega)⟩, ?_⟩
  · intro p hp
    simp only [List.mem_append, List.mem_singleton] at hp
    rcases hp with hp | rfl
    · exact h5 p hp
    · simp only; omega
  · rw [stkM_append, stkM_one]
    unfold wE at h8 ⊢
    obtain ⟨n, hn⟩ : ∃ n, (S.txt l).length = n + 1 := ⟨(S.txt l).length - 1, by omega⟩
    rw [hn] at hw ⊢
    have e1 : k * (2 * (n + 1) - 1) = 2 * (k * n) + k := by
      rw [show 2 * (n + 1) - 1 = 2 * n + 1 by omega, Nat.mul_add, Nat.mul_one, Nat.mul_left_comm]
    have e2 : k * (n + 1) = k * n + k := by rw [Nat.mul_add, Nat.mul_one]
    rw [e1]
    rw [e2] at hw
    omega
theorem AHit.letter {b : Nat} (h : AHit S mc XS id0 q at_ st pre id m) (ht : S.txt id = [b]) (hq : mc.step q b < mc.n) : AInv S mc XS id0 (mc.step q b) (at_ + 1) st (pre ++ [(at_ + 1, mc.wt (mc.step q b))]) ∧ stkM S st < m ∧ 0 < mc.wt (mc.step q b) := by
  obtain ⟨h1, h2, h3, h4, h5, h6, h7, h8⟩ := h
  rw [ht] at h1 h2 h4
  have hw : 0 < mc.wt (mc.step q b) := by simpa [Mc.sum] using h4
  refine ⟨⟨?_, by simp at h2; omega, hq, h5, h6⟩, ?_, hw⟩
  · simp only [List.cons_append, List.nil_append, Mc.hits, ends, hw, if_true] at h1
    rw [List.append_assoc]
    exact h1
  · unfold wE at h8
    rw [ht] at h8
    simp at h8
    omega
end
end Go.Proofs.Ytijnhpaafhcndaa
end
section
namespace Go.Proofs.Ytijnhpaafhcndaa
open Go.RowKit Go.Maps
attribute [local go_sem] InGr
set_option maxHeartbeats 4000000
set_option maxRecDepth 100000
set_option linter.unusedSimpArgs false
set_option linter.unusedVariables false
theorem xrefs_pair (L R : Nat) (w : World) : Calls Try.prog 93 #[.agg #[.int .i64 (2 : Nat), .int .u8 (0 : Nat), .int .i64 L, .int .i64 R, .int .i64 (0 : Nat)]] w (RefsPost [L, R] w) := by
  have H := St.nil w []
  go_enter Try.func93, Try.ntmps93
  go_wp2_with (first | refine sL ?_ | (refine sB ?_; clear H; intro _ _ H) | ((with_reducible refine isSlice ?_); refine AtSlice.two encI H rfl rfl rfl rfl rfl rfl rfl rfl L R rfl rfl encI_len ?_; clear H; intro b _ H; simp only [Act.put, puA, puB, puC]))
  go_ret
  refine ⟨_, rfl, ?_⟩
  refine (H.conv (A' := rowsA encI 32 1 (.slice (some ⟨_, 0, none⟩) 2 2) [L, R]) (by rw [rowsA_fp', blk_fp]; rfl) fun hb => ?_).onlyHead
  rw [blk_ho] at hb
  exact rowsA_of_blk (xs := [L, R]) hb (by simp [maxLen]) rfl encI_len
theorem xrefs_power (L k : Nat) (w : World) : Calls Try.prog 93 #[.agg #[.int .i64 (3 : Nat), .int .u8 (0 : Nat), .int .i64 L, .int .i64 (0 : Nat), .int .i64 k]] w (RefsPost [L] w) := by
  have H := St.nil w []
  go_enter Try.func93, Try.ntmps93
  go_wp2_with (first | refine sL ?_ | (refine sB ?_; clear H; intro _ _ H) | ((with_reducible refine isSlice ?_); refine AtSlice.one H rfl rfl rfl rfl rfl rfl rfl rfl rfl ?_; clear H; intro b _ H; simp only [Act.put, puA, puB, puC]))
  go_ret
  refine ⟨_, rfl, ?_⟩
  refine (H.conv (A' := rowsA encI 32 1 (.slice (some ⟨_, 0, none⟩) 1 1) [L]) (by rw [rowsA_fp', blk_fp]; rfl) fun hb => ?_).onlyHead
  rw [blk_ho] at hb
  exact rowsA_of_blk (xs := [L]) hb (by simp [maxLen]) rfl encI_len
theorem xrefs_letter (b : Nat) (w : World) : Calls Try.prog 93 #[.agg #[.int .i64 (1 : Nat), .int .u8 b, .int .i64 (0 : Nat), .int .i64 (0 : Nat), .int .i64 (0 : Nat)]] w (RefsPost [] w) := by
  have H := St.nil w []
  go_enter Try.func93, Try.ntmps93
  go_wp2_with (first | refine sL ?_ | (refine sB ?_; clear H; intro _ _ H))
  go_ret
  exact ⟨_, rfl, (H.empty (A := rowsA encI 32 1 (.slice none 0 0) []) (rowsA_nil _) (by rw [rowsA_fp']; rfl)).onlyHead⟩
section
variable {ops : Array Oper} {Q : Exit → Act → World → Prop} {rest : List Oper} {a : Act} {w w0 : World} {M : List Nat} {L : List As} {o1 : Oper}
theorem AtSlice.zero {α : Type} (enc : α → List Value) {t e : TypeId} (H : St w0 M L w) (hw : Region.wanted o1 (yielded ops a.tmps) = true) (ho : o1.op = .buildSlice t 0 #[]) (hte : sliceO t = some e) {z : Value} {k bytes : Nat} (hi : infoO e = some (z, k, bytes)) (hk : ∀ x, (enc x).length = k)
    (h : ∀ b w', St w0 M (rowsA enc e k (.slice (some ⟨b, 0, none⟩) 0 0) [] :: L) w' → wpList Try.prog ops Q rest (a.put o1.dst (.slice (some ⟨b, 0, none⟩) 0 0)) w') : AtSlice Try.prog ops Q o1 t 0 #[] rest a w :=
  wpList_step fun _ hK => by
    rw [if_pos hw]
    unfold Oper.wp execOp
    simp only [ho, List.map_toArray, List.map_nil, Sem.run_bind, run_slice0 hte hi, Result.andThen_ok, Sem.run_pure]
    exact hK _ _ (h _ _ ((H.alloc (.cells #[] e)).conv (by rw [rowsA_fp', blk_fp]; rfl) fun hb => rowsA_of_blk (xs := []) (by rw [blk_ho] at hb; exact hb) (by simp [maxLen]) (by simp [flatG]) hk))
end
theorem enc8_one (x : Nat) : ∀ u ∈ enc8 x, u.oneCell' = true := by
  intro u hu
  simp [enc8] at hu
  subst hu
  rfl
abbrev DerPost (l : List Nat) (w : World) (e : Ending) (w' : World) : Prop := ∃ v, e = .returned v ∧ St w [] [rowsA enc8 5 1 v l] w'
theorem derive_c {S : Sto} (hS : S.Ok) {P : PoolT} {n c : Nat} {ad : Option Addr} (hrow : RowIn P encR 5 (.slice ad n c) (S.list.take n)) (hn : n ≤ S.list.length) :
    ∀ (i : Nat), i < n → (S.txt (i + 1)).length ≤ 300 → ∀ (z : Int), z = (i : Int) + 1 → ∀ w, (poolA P).ho w → Calls Try.prog 94 #[.slice ad n c, .int .i64 z] w (DerPost (S.txt (i + 1)) w) := by
  intro i
  induction i using Nat.strongRecOn with
  | _ i ih =>
    intro hi hl z hz w hp
    subst hz
    have H := St.nil w []
    have HK := Ks.one hp
    obtain ⟨x, hx⟩ : ∃ x, S.list[i]? = some x := ⟨S.list[i], by simp⟩
    have hx' : (S.list.take n)[i]? = some x := by rw [List.getElem?_take, if_pos hi]; exact hx
    have hpos : 0 < (S.list.take n).length := by simp; omega
    obtain ⟨g, o, c', he, hm⟩ := hrow.has hpos
    injection he with e1 e2 e3
    subst e1
    have HR := Lib.hid hrow
    have HX0 := Lib.hid hx'
    have HI := Lib.hid ih
    have hln := hS.len
    have hmost := hS.most
    have hent := hS.ents i x hx
    clear ih hrow hp hx' e2 e3 hm hpos
    cases hent with
    | letter b hb =>
      rw [S.txt_letter hx]
      clear hx hl
      go_enter Try.func94, Try.ntmps94
      go_wp2_with (first | refine sL ?_ | (refine sS ?_; clear H; intro _ H) | (refine sA ?_; clear H; intro _ _ H) | ((with_reducible refine isLoad ?_); refine AtLoad.rngT (vs := [.int .i64 (1 : Nat), .int .u8 b, .int .i64 (0 : Nat), .int .i64 (0 : Nat), .int .i64 (0 : Nat)]) rfl rfl rfl (HR.out.rng (H.known HK pk) encR_len HX0.out) rfl ?_; simp only [Act.put, puA, puB, puC]) | ((with_reducible refine isSlice ?_); refine AtSlice.one H rfl rfl rfl rfl rfl rfl rfl rfl rfl ?_; clear H; intro b1 _ H; simp only [Act.put, puA, puB, puC]))
      go_ret
      refine ⟨_, rfl, ?_⟩
      refine (H.conv (A' := rowsA enc8 5 1 (.slice (some ⟨_, 0, none⟩) 1 1) [b]) (by rw [rowsA_fp', blk_fp]; rfl) fun hb => ?_).onlyHead
      rw [blk_ho] at hb
      exact rowsA_of_blk (xs := [b]) hb (by simp [maxLen]) rfl enc8_len
    | pair l r y y2 hl1 hr1 hy1 hy2 hle =>
      rw [S.txt_pair hl1 hr1 hx] at hl ⊢
      rw [List.length_append] at hl
      have HD1 := Lib.hid (fun w h => HI.out l hl1 (by omega) (by omega) ((l : Int) + 1) rfl w h)
      have HD2 := Lib.hid (fun w h => HI.out r hr1 (by omega) (by omega) ((r : Int) + 1) rfl w h)
      generalize S.txt (l + 1) = t1 at *
      generalize S.txt (r + 1) = t2 at *
      clear HI hx
      go_enter Try.func94, Try.ntmps94
      go_wp2_with (first | refine sL ?_ | (refine sS ?_; clear H; intro _ H) | (refine sA ?_; clear H; intro _ _ H) | ((with_reducible refine isLoad ?_); refine AtLoad.rngT (vs := [.int .i64 (2 : Nat), .int .u8 (0 : Nat), .int .i64 ((l + 1 : Nat) : Int), .int .i64 ((r + 1 : Nat) : Int), .int .i64 (0 : Nat)]) rfl rfl rfl (HR.out.rng (H.known HK pk) encR_len HX0.out) rfl ?_; simp only [Act.put, puA, puB, puC]) | ((with_reducible refine isSlice ?_); refine AtSlice.zero enc8 H rfl rfl rfl rfl enc8_len ?_; clear H; intro b1 _ H; simp only [Act.put, puA, puB, puC]) | (go_at_call 94; with_reducible refine Calls.mono (HD1.out _ (H.known HK pk)) ?_; rintro e wc ⟨v1, rfl, hb⟩; replace H := H.call0 hb; clear hb; simp only [List.cons_append, List.nil_append] at H) | (go_at_call 94; with_reducible refine Calls.mono (HD2.out _ (H.known HK pk)) ?_; rintro e wc ⟨v2, rfl, hb⟩; replace H := H.call0 hb; clear hb; simp only [List.cons_append, List.nil_append] at H) | ((with_reducible refine isAppend ?_); refine AtAppend.rows (xs := []) H rfl rfl rfl rfl rfl (by decide) (by decide) rfl pk rfl (H.get (A := rowsA enc8 5 1 v1 t1) pk) enc8_len enc8_one (by simp; omega) ?_; clear H; intro ad3 cp3 _ H; simp only [List.length_nil, Nat.zero_add, List.nil_append] at H; simp only [Act.put, puA, puB, puC, List.length_nil, Nat.zero_add]) | ((with_reducible refine isAppend ?_); refine AtAppend.rows (xs := t1) H rfl rfl rfl rfl rfl (by decide) (by decide) rfl pk rfl (H.get (A := rowsA enc8 5 1 v2 t2) pk) enc8_len enc8_one (by simp; omega) ?_; clear H; intro ad4 cp4 _ H; simp only [Act.put, puA, puB, puC]))
      go_ret
      exact ⟨_, rfl, H.onlyHead⟩
    | power l k y hl1 hy1 hk hle =>
      rw [S.txt_power hl1 hx] at hl ⊢
      rw [rep_len] at hl
      have hlen1 : (S.txt (l + 1)).length ≤ 300 := by have := Nat.le_mul_of_pos_left (S.txt (l + 1)).length (show 0 < k by omega); omega
      have hkm := power_le hS (tid := l + 1) hx
      have HD1 := Lib.hid (fun w h => HI.out l hl1 (by omega) hlen1 ((l : Int) + 1) rfl w h)
      generalize S.txt (l + 1) = t1 at *
      clear HI hx
      go_enter Try.func94, Try.ntmps94
      go_wp2_with (first | refine sL ?_ | (refine sS ?_; clear H; intro _ H) | (refine sA ?_; clear H; intro b5 _ H) | ((with_reducible refine isLoad ?_); refine AtLoad.rngT (vs := [.int .i64 (3 : Nat), .int .u8 (0 : Nat), .int .i64 ((l + 1 : Nat) : Int), .int .i64 (0 : Nat), .int .i64 k]) rfl rfl rfl (HR.out.rng (H.known HK pk) encR_len HX0.out) rfl ?_; simp only [Act.put, puA, puB, puC]) | ((with_reducible refine isSlice ?_); refine AtSlice.zero enc8 H rfl rfl rfl rfl enc8_len ?_; clear H; intro b1 _ H; simp only [Act.put, puA, puB, puC]) | (go_at_call 94; with_reducible refine Calls.mono (HD1.out _ (H.known HK pk)) ?_; rintro e wc ⟨v1, rfl, hb⟩; replace H := H.call0 hb; clear hb; simp only [List.cons_append, List.nil_append] at H) | ((with_reducible refine isAppend ?_); refine AtAppend.rows (xs := []) H rfl rfl rfl rfl rfl (by decide) (by decide) rfl pk rfl (H.get (A := rowsA enc8 5 1 v1 t1) pk) enc8_len enc8_one (by simp; omega) ?_; clear H; intro ad3 cp3 _ H; simp only [List.length_nil, Nat.zero_add, List.nil_append] at H; simp only [Act.put, puA, puB, puC, List.length_nil, Nat.zero_add]) | ((with_reducible refine isAppend ?_); refine AtAppend.rows (xs := []) H rfl rfl rfl rfl rfl (by decide) (by decide) rfl pk rfl (H.get (A := rowsA enc8 5 1 (.slice ad3 t1.length cp3) t1) pk) enc8_len enc8_one (by simp; omega) ?_; clear H; intro ad4 cp4 _ H; simp only [List.length_nil, Nat.zero_add, List.nil_append] at H; simp only [Act.put, puA, puB, puC, List.length_nil, Nat.zero_add]))
      go_loopw [6, 8] (fun v6 v8 wr => ∃ j : Nat, v8 = .int .i64 j ∧ 1 ≤ j ∧ j ≤ k ∧ St w [] [rowsA enc8 5 1 v6 (rep j t1), rowsA enc8 5 1 (.slice ad4 t1.length cp4) t1, blk b5 (.cells #[.int .i64 (3 : Nat), .int .u8 (0 : Nat), .int .i64 ((l + 1 : Nat) : Int), .int .i64 (0 : Nat), .int .i64 k] 100)] wr) (fun _ v8 _ => k - (intOf v8).toNat)
      case atStart => exact ⟨1, rfl, Nat.le_refl _, by omega, by rw [rep_one]; exact H.only3 (A := rowsA enc8 5 1 (.slice ad3 t1.length cp3) t1) (B := rowsA enc8 5 1 (.slice ad4 t1.length cp4) t1) pk pk pk⟩
      case round =>
        clear H
        obtain ⟨j, rfl, hj1, hjk, H⟩ := hrel
        by_cases hlt : j < k
        · have hjl : (rep j t1).length + t1.length ≤ 300 := by
            rw [rep_len]
            have := Nat.mul_le_mul_right t1.length (show j + 1 ≤ k by omega)
            rw [Nat.succ_mul] at this
            omega
          have HJL := Lib.hid hjl
          clear hjl
          go_wp2_with (first | refine sL ?_ | (refine sS ?_; clear H; intro _ H) | (refine sA ?_; clear H; intro _ _ H) | ((with_reducible refine isAppend ?_); refine AtAppend.rows (xs := rep j t1) H rfl rfl rfl rfl rfl (by decide) (by decide) rfl pk rfl (H.get (A := rowsA enc8 5 1 (.slice ad4 t1.length cp4) t1) pk) enc8_len enc8_one (by have := HJL.out; omega) ?_; clear H; intro ad5 cp5 _ H; simp only [Act.put, puA, puB, puC]))
          exact ⟨⟨j + 1, by go_num, by omega, by omega, by rw [rep_add, rep_one]; exact H⟩, by simp [intOf]; omega⟩
        · obtain rfl : j = k := by omega
          go_wp2_with (first | refine sL ?_ | (refine sS ?_; clear H; intro _ H) | (refine sA ?_; clear H; intro _ _ H))
          go_ret
          exact ⟨_, rfl, H.onlyHead⟩
end Go.Proofs.Ytijnhpaafhcndaa
end
section
namespace Go.Proofs.Ytijnhpaafhcndaa
open Go.RowKit Go.Maps
attribute [local go_sem] InGr
set_option maxHeartbeats 8000000
set_option maxRecDepth 100000
set_option linter.unusedSimpArgs false
set_option linter.unusedVariables false
def capX (S : Sto) (k : Nat) : Nat := min (S.txt k).length 301
def capL (S : Sto) (n i : Nat) : List Nat := (List.range (n + 1)).map fun k => if k ≤ i then capX S k else 0
theorem capL_len (S : Sto) (n i : Nat) : (capL S n i).length = n + 1 := by simp [capL]
theorem capL_get {S : Sto} {n i k : Nat} (h : k ≤ i) (hi : i ≤ n) : (capL S n i)[k]? = some (capX S k) := by
  unfold capL
  rw [List.getElem?_map, List.getElem?_range (by omega)]
  simp [h]
theorem capL_zero (S : Sto) (n : Nat) : capL S n 0 = List.replicate (n + 1) 0 := by
  unfold capL
  refine List.ext_getElem (by simp) fun k h1 h2 => ?_
  simp only [List.getElem_map, List.getElem_range, List.getElem_replicate]
  split
  · obtain rfl : k = 0 := by omega
    simp [capX, S.txt_zero]
  · rfl
theorem capL_next {S : Sto} {n i : Nat} (h : i < n) {v : Nat} (hv : v = capX S (i + 1)) : (capL S n i).set (i + 1) v = capL S n (i + 1) := by
  subst hv
  unfold capL
  refine List.ext_getElem (by simp) fun k h1 h2 => ?_
  rw [List.getElem_set]
  simp only [List.getElem_map, List.getElem_range]
  split
  · subst_vars; simp
  · rename_i hk
    by_cases hki : k ≤ i
    · rw [if_pos hki, if_pos (by omega)]
    · rw [if_neg hki, if_neg (by omega)]
theorem capX_le (S : Sto) (k : Nat) : capX S k ≤ 301 := by unfold capX; omega
inductive RCase (S : Sto) (i : Nat) : Nat → Nat → Nat → Nat → Nat → List Nat → Prop
  | letter (b : Nat) (h : capX S (i + 1) = 1) : RCase S i 1 b 0 0 0 []
  | pair (l r : Nat) (hl : l + 1 ≤ i) (hr : r + 1 ≤ i) (h : (S.txt (i + 1)).length = (S.txt (l + 1)).length + (S.txt (r + 1)).length) : RCase S i 2 0 (l + 1) (r + 1) 0 [l + 1, r + 1]
  | power (l k : Nat) (hl : l + 1 ≤ i) (hk : 2 ≤ k) (hm : k ≤ 1152921504606846976) (h : (S.txt (i + 1)).length = k * (S.txt (l + 1)).length) : RCase S i 3 0 (l + 1) 0 k [l + 1]
theorem rcase {S : Sto} (hS : S.Ok) {i : Nat} (hi : i < S.list.length) : ∃ x kd lt lf rt tm rl, S.list[i]? = some x ∧ encR x = [.int .i64 (kd : Nat), .int .u8 (lt : Nat), .int .i64 (lf : Nat), .int .i64 (rt : Nat), .int .i64 (tm : Nat)] ∧ RCase S i kd lt lf rt tm rl ∧
    (∀ w, Calls Try.prog 93 #[.agg #[.int .i64 (kd : Nat), .int .u8 (lt : Nat), .int .i64 (lf : Nat), .int .i64 (rt : Nat), .int .i64 (tm : Nat)]] w fun e w' => ∃ v, e = .returned v ∧ St w [] [rowsA encI 32 1 v rl] w') ∧ (∀ r ∈ rl, 1 ≤ r ∧ r ≤ i) ∧ rl.length ≤ 2 := by
  obtain ⟨x, hx⟩ : ∃ x, S.list[i]? = some x := ⟨S.list[i], by simp⟩
  have hent := hS.ents i x hx
  cases hent with
  | letter b hb => exact ⟨_, 1, b, 0, 0, 0, [], hx, rfl, .letter b (by unfold capX; rw [S.txt_letter hx]; rfl), fun w => xrefs_letter b w, by simp, by simp⟩
  | pair l r y y2 hl1 hr1 hy1 hy2 hle => exact ⟨_, 2, 0, l + 1, r + 1, 0, [l + 1, r + 1], hx, rfl, .pair l r (by omega) (by omega) (by rw [S.txt_pair hl1 hr1 hx, List.length_append]), fun w => xrefs_pair (l + 1) (r + 1) w, by simp; omega, by simp⟩
  | power l k y hl1 hy1 hk hle => exact ⟨_, 3, 0, l + 1, 0, k, [l + 1], hx, rfl, .power l k (by omega) hk (power_le hS (tid := l + 1) hx) (by rw [S.txt_power hl1 hx, rep_len]), fun w => xrefs_power (l + 1) k w, by simp; omega, by simp⟩
def ExpPost (l : List Nat) (w : World) (e : Ending) (w' : World) : Prop :=
  (l.length ≤ 300 ∧ ∃ v, e = .returned (.tuple #[v, .bool true]) ∧ St w [] [rowsA enc8 5 1 v l] w') ∨ (¬ l.length ≤ 300 ∧ e = .returned (.tuple #[.slice none 0 0, .bool false]) ∧ St w [] [] w')
theorem expand_c {S : Sto} (hS : S.Ok) {P : PoolT} {n c : Nat} {ad : Option Addr} (hrow : RowIn P encR 5 (.slice ad n c) (S.list.take n)) (hn : n ≤ S.list.length) (w : World) (hp : (poolA P).ho w) :
    Calls Try.prog 64 #[.slice ad n c, .int .i64 300] w (ExpPost (S.txt n) w) := by
  have H := St.nil w []
  have HK := Ks.one hp
  have hln := hS.len
  have hmost := hS.most
  rcases Nat.eq_zero_or_pos n with rfl | hpos
  · clear hrow
    go_enter Try.func64, Try.ntmps64
    go_wp2_with (first | refine sL ?_ | (refine sS ?_; clear H; intro _ H) | (refine sA ?_; clear H; intro _ _ H))
    go_ret2
    exact .inl ⟨by simp [S.txt_zero], _, rfl, by rw [S.txt_zero]; exact (H.empty (A := rowsA enc8 5 1 (.slice none 0 0) []) (rowsA_nil _) (by rw [rowsA_fp']; rfl)).onlyHead⟩
  have hpos' : 0 < (S.list.take n).length := by simp; omega
  obtain ⟨g, o, c', he, hm⟩ := hrow.has hpos'
  injection he with e1 e2 e3
  subst e1
  have HDER := Lib.hid (fun (h : (S.txt n).length ≤ 300) w h2 => derive_c hS hrow hn (n - 1) (by omega) (by rw [show n - 1 + 1 = n by omega]; exact h) (n : Int) (by omega) w h2)
  rw [show n - 1 + 1 = n by omega] at HDER
  have HR := Lib.hid hrow
  have HC : Hid (∀ i, i < n → _) := Lib.hid (fun i (hi : i < n) => rcase hS (i := i) (by omega))
  have hn1 : ((n : Int) + 1) = ((n + 1 : Nat) : Int) := rfl
  have h0 : ((n : Int) == 0) = false := by rw [beq_eq_false_iff_ne]; omega
  clear hrow hp e2 e3 hm hpos' hS
  generalize hN1 : n + 1 = N1 at *
  have HN1 := Lib.hid hN1
  have hNb : N1 ≤ 1048577 := by omega
  clear hN1
  go_enter Try.func64, Try.ntmps64
  go_wp2_with (first | refine sL ?_ | (refine sS ?_; clear H; intro _ H) | (refine sA ?_; clear H; intro _ _ H) | ((with_reducible refine isMakeSlice ?_); refine AtMakeSlice.go encI H rfl rfl N1 rfl rfl rfl rfl 0 rfl rfl encI_len (by omega) (by omega) ?_; clear H; intro bl _ H; simp only [Act.put, puA, puB, puC]))
  go_loopw [7] (fun v7 wr => ∃ i : Nat, v7 = .int .i64 i ∧ i ≤ n ∧ St w [] [rowsA encI 3 1 (.slice (some ⟨bl, 0, none⟩) N1 N1) (capL S n i)] wr) (fun v7 _ => n - (intOf v7).toNat)
  case atStart => exact ⟨0, rfl, Nat.zero_le _, by rw [capL_zero, HN1.out]; exact H⟩
  case round =>
    clear H
    obtain ⟨i, rfl, hi, H⟩ := hrel
    by_cases hlt : i < n
    · obtain ⟨x, kd, lt, lf, rt, tm, rl, hx, henc, hcase, href, hrl, hrl2⟩ := HC.out i hlt
      have HLD : Hid (∀ w, (poolA P).ho w → w.rangeAt g (o + i * 5) [.int .i64 (kd : Nat), .int .u8 (lt : Nat), .int .i64 (lf : Nat), .int .i64 (rt : Nat), .int .i64 (tm : Nat)]) := Lib.hid fun w h => by
        rw [← henc]
        exact HR.out.rng h encR_len (by rw [List.getElem?_take, if_pos hlt]; exact hx)
      have HREF := Lib.hid href
      have HCASE := Lib.hid hcase
      have HRL := Lib.hid hrl
      clear hx henc hcase href hrl HC
      go_wp2_with (first | refine sL ?_ | (refine sS ?_; clear H; intro _ H) | (refine sA ?_; clear H; intro b8 _ H) | ((with_reducible refine isLoad ?_); refine AtLoad.rngT rfl rfl rfl (HLD.out _ (H.known HK pk)) rfl ?_; simp only [Act.put, puA, puB, puC]) | (go_at_call 93; with_reducible refine Calls.mono (HREF.out _) ?_; rintro e wc ⟨v9, rfl, hb⟩; obtain ⟨a9, c9, rfl, _⟩ := rowsA_shape (hb.get (A := rowsA encI 32 1 v9 rl) pk); replace H := H.call0 hb; clear hb; simp only [List.cons_append, List.nil_append] at H))
      go_loopw [10] (fun v10 wr => ∃ k : Nat, v10 = .int .i64 k ∧ k ≤ rl.length ∧ St w [] [rowsA encI 3 1 (.slice (some ⟨bl, 0, none⟩) N1 N1) (capL S n i), rowsA encI 32 1 (.slice a9 rl.length c9) rl, blk b8 (.cells #[.int .i64 (kd : Nat), .int .u8 (lt : Nat), .int .i64 (lf : Nat), .int .i64 (rt : Nat), .int .i64 (tm : Nat)] 100)] wr) (fun v10 _ => rl.length - (intOf v10).toNat)
      case atStart => exact ⟨0, rfl, Nat.zero_le _, H.only3 (A := rowsA encI 3 1 (.slice (some ⟨bl, 0, none⟩) N1 N1) (capL S n i)) (B := rowsA encI 32 1 (.slice a9 rl.length c9) rl) pk pk pk⟩
      case round =>
        clear H
        obtain ⟨k, rfl, hk, H⟩ := hrel
        by_cases hkl : k < rl.length
        · obtain ⟨r, hr⟩ : ∃ r, rl[k]? = some r := ⟨_, List.getElem?_eq_getElem hkl⟩
          obtain ⟨g9, c9', e1, _⟩ := rowsA_cases (H.get (A := rowsA encI 32 1 (.slice a9 rl.length c9) rl) pk) (by omega)
          injection e1 with e1 e2 e3
          subst e1
          have hb := HRL.out r (List.mem_of_getElem? hr)
          have d1 : decide ((r : Int) < 1) = false := by simp; omega
          have d2 : decide ((i : Int) < (r : Int)) = false := by simp; omega
          have d3 : decide (i < r) = false := by simp; omega
          have HRR := Lib.hid hr
          clear hr e2 e3
          go_wp2_with (first | refine sL ?_ | (refine sS ?_; clear H; intro _ H) | (refine sA ?_; clear H; intro _ _ H) | ((with_reducible refine isLoad ?_); refine AtLoad.cel rfl rfl rfl rfl (rowsA_cell1 (H.get (A := rowsA encI 32 1 (.slice (some ⟨g9, 0, none⟩) rl.length c9) rl) pk) encI_len HRR.out rfl) ?_; simp only [Act.put, puA, puB, puC]))
          exact ⟨⟨k + 1, by go_num, by omega, H⟩, by simp [intOf]; omega⟩
        · obtain rfl : k = rl.length := by omega
          have hcase := HCASE.out
          clear HLD HREF HCASE HRL
          cases hcase with
          | letter b h =>
            go_wp2_with (first | refine sL ?_ | (refine sS ?_; clear H; intro _ H) | (refine sA ?_; clear H; intro _ _ H) | ((with_reducible refine isStore ?_); refine AtStore.rowA (enc := encI) (n := N1) (c := N1) H rfl rfl rfl rfl rfl rfl pk (1) (by first | rfl | (simp only [encI]; go_num)) encI_len ?bd ?_; (case bd => rw [capL_len]; omega); clear H; intro _ H; simp only [Act.put, puA, puB, puC]))
            exact ⟨⟨i + 1, by go_num, by omega, by rw [← capL_next hlt (show 1 = capX S (i + 1) from h.symm)]; exact (H.only (A := rowsA encI 3 1 (.slice (some ⟨bl, 0, none⟩) N1 N1) ((capL S n i).set (i + 1) (1))) pk)⟩, by simp [intOf]; omega⟩
          | pair l r hl hr h =>
            have hxi : capX S (i + 1) = min (capX S (l + 1) + capX S (r + 1)) 301 := by unfold capX; omega
            have ha := capX_le S (l + 1)
            have hb := capX_le S (r + 1)
            have HL1 := Lib.hid (capL_get (S := S) (n := n) hl (by omega))
            have HL2 := Lib.hid (capL_get (S := S) (n := n) hr (by omega))
            generalize capX S (l + 1) = a at *
            generalize capX S (r + 1) = b at *
            go_wp2_with (first | refine sL ?_ | (refine sS ?_; clear H; intro _ H) | (refine sA ?_; clear H; intro _ _ H))
            refine wp_region_h H 11 [] [] (by kernel_rfl) (by kernel_rfl) ?_
            apply Exists.intro
            refine ⟨fun w1 hw1 HX => ?_, fun bs wr Hr => ?_⟩
            · refine sG ?_
              repeat (first | refine sQ ?_ | ((with_reducible refine isQLoad ?_); refine QtLoad.cel rfl rfl rfl rfl (fun y => rowsA_cell1 ((HX y).get (A := rowsA encI 3 1 (.slice (some ⟨bl, 0, none⟩) N1 N1) (capL S n i)) pk) encI_len HL1.out rfl) ?_; simp only [Act.put, puA, puB, puC]) | ((with_reducible refine isQLoad ?_); refine QtLoad.cel rfl rfl rfl rfl (fun y => rowsA_cell1 ((HX y).get (A := rowsA encI 3 1 (.slice (some ⟨bl, 0, none⟩) N1 N1) (capL S n i)) pk) encI_len HL2.out rfl) ?_; simp only [Act.put, puA, puB, puC]) | go_big_quiet_step (fail))
              exact wpQuiet_nil rfl
            clear H
            have H := Hr
            clear Hr
            replace H := sH H; refine sT ?_
            by_cases hs : a + b ≤ 300
            · have d1 : decide ((300 : Int) < (a : Int) + b) = false := by simp; omega
              have hv : a + b = capX S (i + 1) := by omega
              clear hxi h hs
              go_wp2_with (first | refine sL ?_ | (refine sS ?_; clear H; intro _ H) | (refine sA ?_; clear H; intro _ _ H) | ((with_reducible refine isStore ?_); refine AtStore.rowA (enc := encI) (n := N1) (c := N1) H rfl rfl rfl rfl rfl rfl pk (a + b) (by first | rfl | (simp only [encI]; go_num)) encI_len ?bd ?_; (case bd => rw [capL_len]; omega); clear H; intro _ H; simp only [Act.put, puA, puB, puC]))
              exact ⟨⟨i + 1, by go_num, by omega, by rw [← capL_next hlt (show a + b = capX S (i + 1) from hv)]; exact (H.only (A := rowsA encI 3 1 (.slice (some ⟨bl, 0, none⟩) N1 N1) ((capL S n i).set (i + 1) (a + b))) pk)⟩, by simp [intOf]; omega⟩
            · have d1 : decide ((300 : Int) < (a : Int) + b) = true := by simp; omega
              have hv : 301 = capX S (i + 1) := by omega
              clear hxi h hs
              go_wp2_with (first | refine sL ?_ | (refine sS ?_; clear H; intro _ H) | (refine sA ?_; clear H; intro _ _ H) | ((with_reducible refine isStore ?_); refine AtStore.rowA (enc := encI) (n := N1) (c := N1) H rfl rfl rfl rfl rfl rfl pk (301) (by first | rfl | (simp only [encI]; go_num)) encI_len ?bd ?_; (case bd => rw [capL_len]; omega); clear H; intro _ H; simp only [Act.put, puA, puB, puC]))
              exact ⟨⟨i + 1, by go_num, by omega, by rw [← capL_next hlt (show 301 = capX S (i + 1) from hv)]; exact (H.only (A := rowsA encI 3 1 (.slice (some ⟨bl, 0, none⟩) N1 N1) ((capL S n i).set (i + 1) (301))) pk)⟩, by simp [intOf]; omega⟩
          | power l tm hl hk2 hm h =>
            have hxi : capX S (i + 1) = min (tm * (S.txt (l + 1)).length) 301 := by unfold capX; rw [h]
            have hai : capX S (l + 1) = min (S.txt (l + 1)).length 301 := rfl
            have ha := capX_le S (l + 1)
            have HL1 := Lib.hid (capL_get (S := S) (n := n) hl (by omega))
            have hz : (tm : Int) ≠ 0 := by omega
            have hqb : 300 / tm ≤ 300 := Nat.div_le_self _ _
            have hq : (300 : Int).tdiv (tm : Int) = ((300 / tm : Nat) : Int) := rfl
            have d2 : decide ((tm : Int) < 1) = false := by simp; omega
            have d3 : decide (tm < 1) = false := by simp; omega
            generalize capX S (l + 1) = a at *
            generalize (S.txt (l + 1)).length = len at *
            by_cases hle : a ≤ 300 / tm
            · have hak : a * tm ≤ 300 := (Nat.le_div_iff_mul_le (by omega)).1 hle
              have ha2 : a * 2 ≤ a * tm := Nat.mul_le_mul_left a hk2
              have hal : len = a := by omega
              have hv : a * tm = capX S (i + 1) := by rw [hxi, hal, Nat.mul_comm tm a]; omega
              have d1 : decide ((a : Int) ≤ ((300 / tm : Nat) : Int)) = true := by simp only [decide_eq_true_eq]; omega
              have d5 : decide (a ≤ 300 / tm) = true := by simp only [decide_eq_true_eq]; omega
              have hp : (a : Int) * (tm : Int) = ((a * tm : Nat) : Int) := (Int.natCast_mul a tm).symm
              generalize a * tm = pr at *
              generalize 300 / tm = qk at *
              clear hxi h hai hal ha2 hle
              have d4 : decide ((300 : Int) < (pr : Int)) = false := by simp; omega
              go_wp2_with (first | refine sL ?_ | (refine sS ?_; clear H; intro _ H) | (refine sA ?_; clear H; intro _ _ H))
              refine wp_region_h H 10 [] [] (by kernel_rfl) (by kernel_rfl) ?_
              apply Exists.intro
              refine ⟨fun w1 hw1 HX => ?_, fun bs wr Hr => ?_⟩
              · refine sG ?_
                repeat (first | refine sQ ?_ | ((with_reducible refine isQLoad ?_); refine QtLoad.cel rfl rfl rfl rfl (fun y => rowsA_cell1 ((HX y).get (A := rowsA encI 3 1 (.slice (some ⟨bl, 0, none⟩) N1 N1) (capL S n i)) pk) encI_len HL1.out rfl) ?_; simp only [Act.put, puA, puB, puC]) | go_big_quiet_step (fail))
                exact wpQuiet_nil rfl
              clear H
              have H := Hr
              clear Hr
              replace H := sH H; refine sT ?_
              go_wp2_with (first | refine sL ?_ | (refine sS ?_; clear H; intro _ H) | (refine sA ?_; clear H; intro _ _ H))
              refine wp_region_h H 8 [] [] (by kernel_rfl) (by kernel_rfl) ?_
              apply Exists.intro
              refine ⟨fun w1 hw1 HX => ?_, fun bs wr Hr => ?_⟩
              · refine sG ?_
                repeat (first | refine sQ ?_ | ((with_reducible refine isQLoad ?_); refine QtLoad.cel rfl rfl rfl rfl (fun y => rowsA_cell1 ((HX y).get (A := rowsA encI 3 1 (.slice (some ⟨bl, 0, none⟩) N1 N1) (capL S n i)) pk) encI_len HL1.out rfl) ?_; simp only [Act.put, puA, puB, puC]) | go_big_quiet_step (fail))
                exact wpQuiet_nil rfl
              clear H
              have H := Hr
              clear Hr
              replace H := sH H; refine sT ?_
              go_wp2_with (first | refine sL ?_ | (refine sS ?_; clear H; intro _ H) | (refine sA ?_; clear H; intro _ _ H) | ((with_reducible refine isStore ?_); refine AtStore.rowA (enc := encI) (n := N1) (c := N1) H rfl rfl rfl rfl rfl rfl pk (pr) (by first | rfl | (simp only [encI]; go_num)) encI_len ?bd ?_; (case bd => rw [capL_len]; omega); clear H; intro _ H; simp only [Act.put, puA, puB, puC]))
              exact ⟨⟨i + 1, by go_num, by omega, by rw [← capL_next hlt (show pr = capX S (i + 1) from hv)]; exact (H.only (A := rowsA encI 3 1 (.slice (some ⟨bl, 0, none⟩) N1 N1) ((capL S n i).set (i + 1) (pr))) pk)⟩, by simp [intOf]; omega⟩
            · have hak : 300 < a * tm := by
                exact Nat.lt_of_not_le fun h => hle ((Nat.le_div_iff_mul_le (by omega)).2 h)
              have hv : 301 = capX S (i + 1) := by
                have := Nat.mul_le_mul_left tm (show a ≤ len by omega)
                rw [Nat.mul_comm tm a] at this
                omega
              have d1 : decide ((a : Int) ≤ ((300 / tm : Nat) : Int)) = false := by simp only [decide_eq_false_iff_not]; omega
              have d5 : decide (a ≤ 300 / tm) = false := by simp only [decide_eq_false_iff_not]; omega
              generalize 300 / tm = qk at *
              clear hxi h hai hak hle
              go_wp2_with (first | refine sL ?_ | (refine sS ?_; clear H; intro _ H) | (refine sA ?_; clear H; intro _ _ H))
              refine wp_region_h H 10 [] [] (by kernel_rfl) (by kernel_rfl) ?_
              apply Exists.intro
              refine ⟨fun w1 hw1 HX => ?_, fun bs wr Hr => ?_⟩
              · refine sG ?_
                repeat (first | refine sQ ?_ | ((with_reducible refine isQLoad ?_); refine QtLoad.cel rfl rfl rfl rfl (fun y => rowsA_cell1 ((HX y).get (A := rowsA encI 3 1 (.slice (some ⟨bl, 0, none⟩) N1 N1) (capL S n i)) pk) encI_len HL1.out rfl) ?_; simp only [Act.put, puA, puB, puC]) | go_big_quiet_step (fail))
                exact wpQuiet_nil rfl
              clear H
              have H := Hr
              clear Hr
              replace H := sH H; refine sT ?_
              go_wp2_with (first | refine sL ?_ | (refine sS ?_; clear H; intro _ H) | (refine sA ?_; clear H; intro _ _ H) | ((with_reducible refine isStore ?_); refine AtStore.rowA (enc := encI) (n := N1) (c := N1) H rfl rfl rfl rfl rfl rfl pk (301) (by first | rfl | (simp only [encI]; go_num)) encI_len ?bd ?_; (case bd => rw [capL_len]; omega); clear H; intro _ H; simp only [Act.put, puA, puB, puC]))
              exact ⟨⟨i + 1, by go_num, by omega, by rw [← capL_next hlt (show 301 = capX S (i + 1) from hv)]; exact (H.only (A := rowsA encI 3 1 (.slice (some ⟨bl, 0, none⟩) N1 N1) ((capL S n i).set (i + 1) (301))) pk)⟩, by simp [intOf]; omega⟩
    · obtain rfl : i = n := by omega
      have hcx : capX S i = min (S.txt i).length 301 := rfl
      have HL1 := Lib.hid (capL_get (S := S) (n := i) (Nat.le_refl i) (Nat.le_refl i))
      generalize capX S i = cx at *
      by_cases hs : (S.txt i).length ≤ 300
      · have d1 : decide ((300 : Int) < (cx : Int)) = false := by simp; omega
        have HD := Lib.hid (HDER.out hs)
        have HS := Lib.hid hs
        clear HDER hcx hs
        go_wp2_with (first | refine sL ?_ | (refine sS ?_; clear H; intro _ H) | (refine sA ?_; clear H; intro _ _ H) | ((with_reducible refine isLoad ?_); refine AtLoad.cel rfl rfl rfl rfl (rowsA_cell1 (H.get (A := rowsA encI 3 1 (.slice (some ⟨bl, 0, none⟩) N1 N1) (capL S i i)) pk) encI_len HL1.out rfl) ?_; simp only [Act.put, puA, puB, puC]) | (go_at_call 94; with_reducible refine Calls.mono (HD.out _ (H.known HK pk)) ?_; rintro e wc ⟨v1, rfl, hb⟩; replace H := H.call0 hb; clear hb; simp only [List.cons_append, List.nil_append] at H))
        go_ret2
        exact .inl ⟨HS.out, _, rfl, H.onlyHead⟩
      · have d1 : decide ((300 : Int) < (cx : Int)) = true := by simp; omega
        have HS := Lib.hid hs
        clear HDER hcx hs
        go_wp2_with (first | refine sL ?_ | (refine sS ?_; clear H; intro _ H) | (refine sA ?_; clear H; intro _ _ H) | ((with_reducible refine isLoad ?_); refine AtLoad.cel rfl rfl rfl rfl (rowsA_cell1 (H.get (A := rowsA encI 3 1 (.slice (some ⟨bl, 0, none⟩) N1 N1) (capL S i i)) pk) encI_len HL1.out rfl) ?_; simp only [Act.put, puA, puB, puC]))
        go_ret2
        exact .inr ⟨HS.out, rfl, H.nix⟩
end Go.Proofs.Ytijnhpaafhcndaa
end
section
namespace Go.Proofs.Ytijnhpaafhcndaa
open Go.RowKit Go.Maps
attribute [local go_sem] InGr
set_option maxHeartbeats 8000000
set_option maxRecDepth 100000
set_option linter.unusedSimpArgs false
set_option linter.unusedVariables false
theorem hits_snoc (m : Mc) (q b : Nat) (l : List Nat) : m.hits q (l ++ [b]) = m.hits q l ++ [m.wt (m.step (m.ends q l) b)] := by
  rw [Mc.hits_append]; rfl
theorem hits_c {P : PoolT} {m : Mc} {c : Nat} (ok : m.Ok c) {cv nv av hv tv : Value} {rvs : List Value} (hm : MacAt P cv nv av rvs m) (hh : RowIn P encI 1 hv m.wts) {l : List Nat} (hl : ∀ b ∈ l, b < 256) (hlen : l.length ≤ 300) (ht : RowIn P enc8 1 tv l) (w : World) (hp : (poolA P).ho w) :
    Calls Try.prog 33 #[.agg #[.int .i64 m.start, cv, nv, av], hv, tv] w fun e w' => ∃ v, e = .returned v ∧ St w [] [rowsA encI 3 1 v (m.hits m.start l)] w' := by
  have H := St.nil w []
  have HK := Ks.one hp
  have hn1 := ok.n1
  have hn256 := ok.n256
  obtain ⟨gc, oc, cc, rfl, hrc⟩ := hm.cls.hasN ok.cls (by omega)
  obtain ⟨gn, on, cn, rfl, hrn⟩ := hm.next.hasN hm.len ok.n1
  obtain ⟨gh, oh, ch, rfl, hrh⟩ := hh.hasN ok.wts ok.n1
  obtain ⟨at_, ct, rfl, hmx⟩ := ht.shape
  have HRC := Lib.hid hrc
  have HRN := Lib.hid hrn
  have HRH := Lib.hid hrh
  have HM := Lib.hid hm
  have HO := Lib.hid ok
  have HT := Lib.hid ht
  have HL := Lib.hid hl
  have HQ : Hid (∀ k, m.ends m.start (l.take k) < m.n) := Lib.hid fun k => ok.ends_lt ok.start fun b hb => hl b (List.mem_of_mem_take hb)
  have HST : Hid (∀ k b, l[k]? = some b → m.ends m.start (l.take (k + 1)) = m.step (m.ends m.start (l.take k)) b ∧ m.hits m.start (l.take (k + 1)) = m.hits m.start (l.take k) ++ [m.wt (m.step (m.ends m.start (l.take k)) b)]) := Lib.hid fun k b hb => by
    rw [List.take_add_one, hb]
    exact ⟨by rw [Mc.ends_append]; rfl, hits_snoc _ _ _ _⟩
  clear hm hh hl ht ok hp hrc hrn hrh
  go_enter Try.func33, Try.ntmps33
  go_wp2_with (first | refine sL ?_ | (refine sB ?_; clear H; intro b3 _ H))
  replace H := H.empty (A := rowsA encI 3 1 (.slice none 0 0) []) (rowsA_nil _) (by rw [rowsA_fp']; rfl)
  go_loopw [7, 8, 9] (fun v7 v8 v9 wr => ∃ k : Nat, v9 = .int .i64 k ∧ k ≤ l.length ∧ v8 = .int .i64 (m.ends m.start (l.take k) : Nat) ∧ St w [] [rowsA encI 3 1 v7 (m.hits m.start (l.take k)), blk b3 (.cells #[.int .i64 m.start, .slice (some ⟨gc, oc, none⟩) 256 cc, .slice (some ⟨gn, on, none⟩) m.n cn, av] 26)] wr) (fun _ _ v9 _ => l.length - (intOf v9).toNat)
  case atStart => exact ⟨0, rfl, Nat.zero_le _, rfl, H⟩
  case round =>
    clear H
    obtain ⟨k, rfl, hk, rfl, H⟩ := hrel
    by_cases hlt : k < l.length
    · obtain ⟨b, hb⟩ : ∃ b, l[k]? = some b := ⟨_, List.getElem?_eq_getElem hlt⟩
      have hb256 := HL.out b (List.mem_of_getElem? hb)
      have hq := HQ.out k
      obtain ⟨s1, s2⟩ := HST.out k b hb
      have hhl : (m.hits m.start (l.take k)).length = k := by rw [Mc.hits_len, List.length_take]; omega
      generalize m.ends m.start (l.take k) = q at *
      generalize m.hits m.start (l.take k) = hs at *
      obtain ⟨r, x, x1, x2, x3, x4, x5, x6⟩ := HO.out.step_get hq hb256
      obtain ⟨gr, og, d, r', y1, y2, y3, y4⟩ := HM.out.row HO.out hq
      rw [x1] at y2
      cases y2
      obtain ⟨gt', ot, ct', z1, z2⟩ := HT.out.has (by omega)
      injection z1 with z1 z3 z4
      subst z1
      have hwt := HO.out.wt_get x4
      have hcn : c ≤ 256 := HO.out.c256
      have HB := Lib.hid hb
      have HX1 := Lib.hid x2
      have HX2 := Lib.hid x3
      have HX3 := Lib.hid y1
      have HROW := Lib.hid y3
      have HW := Lib.hid hwt.1
      have HS := Lib.hid (And.intro s1 s2)
      clear x1 x2 x3 y1 y3 hwt hb s1 s2 z2 z3 z4 HST HQ HL
      generalize m.step q b = q2 at *
      generalize m.wt q2 = wq at *
      generalize hnn : m.n = nn at *
      go_wp2_with (first | refine sL ?_ | (refine sB ?_; clear H; intro _ _ H))
      refine wp_region_h H 15 [] [] (by kernel_rfl) (by kernel_rfl) ?_
      apply Exists.intro
      refine ⟨fun w1 hw1 HX => ?_, fun bs wr Hr => ?_⟩
      · refine sG ?_
        repeat (first | refine sQ ?_ | ((with_reducible refine isQLoad ?_); refine QtLoad.cel rfl rfl rfl rfl (fun y => HRC.out.cell ((HX y).known HK pk) encI_len HX1.out rfl) ?_; simp only [Act.put, puA, puB, puC]) | ((with_reducible refine isQLoad ?_); refine QtLoad.cel rfl rfl rfl rfl (fun y => HROW.out.cell ((HX y).known HK pk) encI_len HX2.out rfl) ?_; simp only [Act.put, puA, puB, puC]) | ((with_reducible refine isQLoad ?_); refine QtLoad.cel rfl rfl rfl rfl (fun y => HRN.out.cell ((HX y).known HK pk) encV_len HX3.out rfl) ?_; simp only [Act.put, puA, puB, puC]) | ((with_reducible refine isQLoad ?_); refine QtLoad.cel rfl rfl rfl rfl (fun y => HT.out.cell ((HX y).known HK pk) enc8_len HB.out rfl) ?_; simp only [Act.put, puA, puB, puC]) | go_big_quiet_step (fail))
        exact wpQuiet_nil rfl
      clear H
      have H := Hr
      clear Hr
      replace H := sH H; refine sT ?_
      go_wp2_with (first | refine sL ?_ | (refine sB ?_; clear H; intro _ _ H) | ((with_reducible refine isLoad ?_); refine AtLoad.cel rfl rfl rfl rfl (HRH.out.cell (H.known HK pk) encI_len HW.out rfl) ?_; simp only [Act.put, puA, puB, puC]) | ((with_reducible refine isSlice ?_); refine AtSlice.one H rfl rfl rfl rfl rfl rfl rfl rfl rfl ?_; clear H; intro b1 _ H; simp only [Act.put, puA, puB, puC]) | ((with_reducible refine isAppend ?_); refine AtAppend.go (enc := encI) H rfl rfl rfl rfl rfl (by decide) (by decide) rfl pk rfl (H.at pk) [wq] rfl (by simp [flatG, encI]) encI_len encI_one (by simp; omega) ?_; clear H; intro ad9 cp9 _ H; simp only [Act.put, puA, puB, puC]))
      obtain ⟨s1, s2⟩ := HS.out
      exact ⟨⟨k + 1, by go_num, by omega, by rw [s1], by rw [s2]; exact H.drop (A := blk b1 (.cells #[.int .i64 (wq : Nat)] 3)) pk⟩, by simp [intOf]; omega⟩
    · obtain rfl : k = l.length := by omega
      go_wp2_with (first | refine sL ?_ | (refine sB ?_; clear H; intro _ _ H))
      go_ret
      rw [List.take_length] at H
      exact ⟨_, rfl, H.onlyHead⟩
end Go.Proofs.Ytijnhpaafhcndaa
end
section
namespace Go.Proofs.Ytijnhpaafhcndaa
open Go.RowKit Go.Maps
attribute [local go_sem] InGr
set_option maxHeartbeats 8000000
set_option maxRecDepth 100000
set_option linter.unusedSimpArgs false
set_option linter.unusedVariables false
end Go.Proofs.Ytijnhpaafhcndaa
end
section
namespace Go.Proofs.Ytijnhpaafhcndaa
open Go.RowKit Go.Maps
attribute [local go_sem] InGr
set_option maxHeartbeats 8000000
set_option maxRecDepth 100000
set_option linter.unusedSimpArgs false
set_option linter.unusedVariables false
section
variable {ops : Array Oper} {Q : Exit → Act → World → Prop} {rest : List Oper} {a : Act} {w w0 : World} {o1 : Oper} {dst : Option Tmp} {ty0 : TypeId} {pos : String} {aft : Array Edge} {gd : Option (Nat × Bool)}
theorem run_cut {t e : TypeId} (hte : sliceO t = some e) {z : Value} {k bytes : Nat} (hi : infoO e = some (z, k, bytes)) {ad : Option Addr} {n c m : Nat} (had : ad = none ∨ ∃ g, ad = some ⟨g, 0, none⟩) (hm : m ≤ c) (w : World) :
    (Instr.sliceAt t (.slice ad n c) none (some (.int .i64 (m : Nat))) none).run Try.prog w = .ok (.slice ad m c) w := by
  obtain ⟨i, h2, h3, h4, h5⟩ := infoO_ok hi
  have hu := sliceO_ok hte
  have hb : (Instr.sliceBound (Value.int .i64 (m : Nat)) c .sliceAcap).run Try.prog w = .ok m w := by
    unfold Instr.sliceBound
    simp [asIntOf, hm]
  rcases had with rfl | ⟨g, rfl⟩
  · simp [Instr.sliceAt, Instr.slice, Instr.sliceBounds, run_underlying hu, sizeOf, typeInfo, h2, Sem.run_bind, Result.andThen, hb]
  · simp [Instr.sliceAt, Instr.slice, Instr.sliceBounds, run_underlying hu, sizeOf, typeInfo, h2, Sem.run_bind, Result.andThen, hb, Addr.add]
theorem AtCut.any {t e : TypeId} {x y : Operand} (hw : Region.wanted o1 (yielded ops a.tmps) = true) (ho : o1.op = .slice t x none (some y) none) (hte : sliceO t = some e) {z : Value} {k bytes : Nat} (hi : infoO e = some (z, k, bytes)) {ad : Option Addr} {n c m : Nat} (hx : a.eval x = .slice ad n c) (hy : a.eval y = .int .i64 (m : Nat)) (had : ad = none ∨ ∃ g, ad = some ⟨g, 0, none⟩) (hm : m ≤ c)
    (h : wpList Try.prog ops Q rest (a.put o1.dst (.slice ad m c)) w) : AtCut Try.prog ops Q o1 t x y rest a w :=
  wpList_step fun _ hK => by
    rw [if_pos hw]
    unfold Oper.wp execOp
    simp only [ho, hx, hy, Option.map_none, Option.map_some, Sem.run_bind, run_cut hte hi had hm, Result.andThen_ok, Sem.run_pure]
    exact hK _ _ h
end
theorem flatG_take {α : Type} {enc : α → List Value} (xs : List α) (m j : Nat) (u : Value) (h : (flatG enc (xs.take m))[j]? = some u) : (flatG enc xs)[j]? = some u := by
  have e : flatG enc xs = flatG enc (xs.take m) ++ flatG enc (xs.drop m) := by
    have : flatG enc (xs.take m ++ xs.drop m) = flatG enc (xs.take m) ++ flatG enc (xs.drop m) := List.flatMap_append
    rwa [List.take_append_drop] at this
  rw [e, List.getElem?_append_left (getElem_len h)]
  exact h
theorem rowsA_front {α : Type} {enc : α → List Value} {e : TypeId} {k n c : Nat} {ad : Option Addr} {xs : List α} {w : World} (h : (rowsA enc e k (.slice ad n c) xs).ho w) (hk : ∀ x, (enc x).length = k) {m : Nat} (hm : m ≤ xs.length) : m ≤ c ∧ ∃ P, RowIn P enc k (.slice ad m c) (xs.take m) ∧ (poolA P).ho w := by
  have hl : (xs.take m).length = m := by simp; omega
  by_cases h0 : 0 < xs.length
  · obtain ⟨g, c', e1, hc, hmx⟩ := rowsA_cases h h0
    injection e1 with e1 e2 e3
    subst e1 e2 e3
    refine ⟨by omega, [(g, 0, flatG enc (xs.take m))], ⟨_, c, by rw [hl], by rw [hl]; omega, fun _ => ⟨g, 0, rfl, by simp⟩⟩, ?_⟩
    rw [poolA_ho]
    intro x hx
    simp only [List.mem_singleton] at hx
    subst hx
    refine ⟨(rowsA enc e k _ xs).lt w h g (by rw [rowsA_fp']; simp [Value.ownBlock]), fun j u hj => ?_⟩
    rw [rowsA_ho] at h
    have h1 := World.ownsRow.cells h (g := g) rfl j u (flatG_take xs m j u hj)
    rwa [Addr.add_mid] at h1
  · have hm0 : m = 0 := by omega
    subst hm0
    refine ⟨Nat.zero_le _, [], ⟨ad, c, by simp, by simp, fun hx => by simp at hx⟩, poolA_nil w⟩
theorem text_c {S : Sto} (hS : S.Ok) {vr vl : Value} {id : Nat} (hid : id ≤ S.list.length) (w : World) (h : (refA vr vl S.list).ho w) :
    Calls Try.prog 32 #[.agg #[vr, vl], .int .i64 id, .int .i64 300] w (ExpPost (S.txt id) w) := by
  have H := St.nil w []
  obtain ⟨h1, _⟩ := refA_ks h
  obtain ⟨ad, c, rfl, _⟩ := rowsA_shape h1
  have had := rowsA_ad h1
  obtain ⟨hmc, P, hrow, hp⟩ := rowsA_front h1 encR_len hid
  have HK := Ks.one hp
  have HX : Hid (∀ w, (poolA P).ho w → Calls Try.prog 64 #[.slice ad id c, .int .i64 300] w fun e w' => ((S.txt id).length ≤ 300 ∧ ∃ v, e = .returned (.tuple #[v, .bool true]) ∧ St w [] [rowsA enc8 5 1 v (S.txt id)] w') ∨ (¬ (S.txt id).length ≤ 300 ∧ e = .returned (.tuple #[.slice none 0 0, .bool false]) ∧ St w [] [] w')) := Lib.hid fun w h => expand_c hS hrow hid w h
  have HA := Lib.hid had
  clear h h1 hrow hp had
  unfold ExpPost
  generalize S.txt id = t at *
  go_enter Try.func32, Try.ntmps32
  go_wp2_with (first | refine sL ?_ | (refine sB ?_; clear H; intro _ _ H) | ((with_reducible refine isCut ?_); refine AtCut.any rfl rfl rfl rfl rfl rfl HA.out hmc ?_; simp only [Act.put, puA, puB, puC]))
  with_reducible refine Calls.mono (HX.out _ (H.known HK pk)) ?_
  rintro e wc (⟨hl, v, rfl, hb⟩ | ⟨hl, rfl, hb⟩)
  · replace H := H.call0 hb
    clear hb
    simp only [List.cons_append, List.nil_append] at H
    go_wp2_with (first | refine sL ?_ | (refine sB ?_; clear H; intro _ _ H))
    go_ret2
    exact .inl ⟨hl, v, rfl, H.onlyHead⟩
  · replace H := H.grew hb.below
    clear hb
    go_wp2_with (first | refine sL ?_ | (refine sB ?_; clear H; intro _ _ H))
    go_ret2
    exact .inr ⟨hl, rfl, H.nix⟩
abbrev PlainPost (l hs : List Nat) (w : World) (e : Ending) (w' : World) : Prop :=
  (l.length ≤ 300 ∧ ∃ v, e = .returned (.tuple #[v, .bool true]) ∧ St w [] [rowsA encI 3 1 v hs] w') ∨ (¬ l.length ≤ 300 ∧ e = .returned (.tuple #[.slice none 0 0, .bool false]) ∧ St w [] [] w')
theorem plain_c {P : PoolT} {cv nv av hv lv : Value} {rvs : List Value} {R : Raw} {c : Nat} {ms : List Mk} {N : Int} (h : RawAt P cv nv av hv rvs R) (hR : R.Snd c) (hms : RowIn P mkL 5 lv ms) (hf : ∀ m ∈ ms, m.Fits) (hl : ms.length ≤ 100) {id : Nat} (hid : id ≤ (stoOf ms).list.length) (w : World) (hp : (poolA P).ho w) :
    Calls Try.prog 11 #[.agg #[.int .i64 R.start, cv, nv, av, hv, lv, .int .i64 N], .int .i64 id] w (PlainPost ((stoOf ms).txt id) (R.mc.hits R.mc.start ((stoOf ms).txt id)) w) := by
  have H := St.nil w []
  have HK := Ks.one hp
  obtain ⟨hok, _⟩ := idOf_le hf 0
  obtain ⟨hmac, hhit⟩ := h.mac hR
  have hst : ((R.mc.start : Nat) : Int) = R.start := by simp [Raw.mc, Int.toNat_of_nonneg hR.s0]
  have HBU : Hid (∀ w, (poolA P).ho w → Calls Try.prog 31 #[lv] w fun e w' => ∃ vr vl rv, e = .returned (.tuple #[.agg #[vr, vl], rv]) ∧ St w [] [refA vr vl (stoOf ms).list, rowsA encI 32 1 rv (idsOf ms)] w') := Lib.hid fun w h => rbuild_c 1000 (by omega) (by omega) hf w h hms
  have HT : Hid (∀ vr vl w, (refA vr vl (stoOf ms).list).ho w → Calls Try.prog 32 #[.agg #[vr, vl], .int .i64 id, .int .i64 300] w fun e w' => (((stoOf ms).txt id).length ≤ 300 ∧ ∃ v, e = .returned (.tuple #[v, .bool true]) ∧ St w [] [rowsA enc8 5 1 v ((stoOf ms).txt id)] w') ∨ (¬ ((stoOf ms).txt id).length ≤ 300 ∧ e = .returned (.tuple #[.slice none 0 0, .bool false]) ∧ St w [] [] w')) := Lib.hid fun vr vl w h => text_c hok hid w h
  have HH : Hid (∀ tv w, ((stoOf ms).txt id).length ≤ 300 → (poolA P).ho w → (rowsA enc8 5 1 tv ((stoOf ms).txt id)).ho w → Calls Try.prog 33 #[.agg #[.int .i64 R.start, cv, nv, av], hv, tv] w fun e w' => ∃ v, e = .returned v ∧ St w [] [rowsA encI 3 1 v (R.mc.hits R.mc.start ((stoOf ms).txt id))] w') := Lib.hid fun tv w hlen hp hr => by
    obtain ⟨Q, hrow, hq, _⟩ := rowsA_pool hr enc8_len
    have := hits_c hR.ok (hmac.mono (Q := P ++ Q) (by simp +contextual)) (hhit.mono (Q := P ++ Q) (by simp +contextual)) (fun b hb => Sto.txt_lt hok hid b hb) hlen (hrow.mono (Q := P ++ Q) (by simp +contextual)) w (poolA_append hp hq)
    rw [hst] at this
    exact this
  obtain ⟨a1, c1, rfl, hm1⟩ := h.cls.shape
  obtain ⟨a2, c2, rfl, hm2⟩ := h.next.shape
  obtain ⟨a3, c3, rfl, hm3⟩ := h.acc.shape
  obtain ⟨a4, c4, rfl, hm4⟩ := h.wts.shape
  obtain ⟨a5, c5, rfl, hm5⟩ := hms.shape
  clear h hms hf hp hok hmac hhit hst hm1 hm2 hm3 hm4 hm5 hid hR
  generalize (R.mc.hits R.mc.start ((stoOf ms).txt id)) = hs at *
  generalize (stoOf ms).txt id = t at *
  generalize stoOf ms = S at *
  generalize idsOf ms = ids at *
  go_enter Try.func11, Try.ntmps11
  go_wp2_with (first | refine sL ?_ | (refine sS ?_; clear H; intro _ H) | (refine sB ?_; clear H; intro _ _ H) | (refine sA ?_; clear H; intro _ _ H) | (go_at_call 31; with_reducible refine Calls.mono (HBU.out _ (H.known HK pk)) ?_; rintro e wc ⟨vr, vl, rv, rfl, hb⟩; obtain ⟨aa, ca, ab, cb, rfl, rfl⟩ := refA_shape (hb.get (A := refA vr vl S.list) pk); replace H := H.call0 hb; clear hb; simp only [List.cons_append, List.nil_append] at H))
  with_reducible refine Calls.mono (HT.out _ _ _ (H.get (A := refA (.slice aa S.list.length ca) (.slice ab S.list.length cb) S.list) pk)) ?_
  rintro e wc (⟨hl, v, rfl, hb⟩ | ⟨hl, rfl, hb⟩)
  · replace H := H.call0 hb
    clear hb
    simp only [List.cons_append, List.nil_append] at H
    obtain ⟨at1, ct1, rfl, _⟩ := rowsA_shape (H.get (A := rowsA enc8 5 1 v t) pk)
    go_wp2_with (first | refine sL ?_ | (refine sS ?_; clear H; intro _ H) | (refine sB ?_; clear H; intro _ _ H) | (refine sA ?_; clear H; intro _ _ H) | (go_at_call 33; with_reducible refine Calls.mono (HH.out _ _ hl (H.known HK pk) (H.get (A := rowsA enc8 5 1 (.slice at1 t.length ct1) t) pk)) ?_; rintro e wc ⟨vh, rfl, hb⟩; replace H := H.call0 hb; clear hb; simp only [List.cons_append, List.nil_append] at H))
    go_ret2
    exact .inl ⟨hl, _, rfl, H.onlyHead⟩
  · replace H := H.grew hb.below
    clear hb
    go_wp2_with (first | refine sL ?_ | (refine sS ?_; clear H; intro _ H) | (refine sB ?_; clear H; intro _ _ H) | (refine sA ?_; clear H; intro _ _ H))
    go_ret2
    exact .inr ⟨hl, rfl, H.nix⟩
end Go.Proofs.Ytijnhpaafhcndaa
end
section
namespace Go.Proofs.Ytijnhpaafhcndaa
open Go.RowKit Go.Maps
attribute [local go_sem] InGr
set_option maxHeartbeats 8000000
set_option maxRecDepth 100000
set_option linter.unusedSimpArgs false
set_option linter.unusedVariables false
def encQ (p : Nat × Int) : List Value := [.int .i64 p.1, .int .i64 p.2]
theorem encQ_len (p : Nat × Int) : (encQ p).length = 2 := rfl
theorem encQ_one (p : Nat × Int) : ∀ u ∈ encQ p, u.oneCell' = true := by
  intro u hu
  simp only [encQ, List.mem_cons, List.not_mem_nil, or_false] at hu
  rcases hu with rfl | rfl <;> rfl
def stI (st : List (Nat × Nat)) : List (Nat × Int) := st.map fun p => (p.1, (p.2 : Int))
theorem stI_len (st : List (Nat × Nat)) : (stI st).length = st.length := by simp [stI]
theorem stI_snoc (st : List (Nat × Nat)) (i t : Nat) : stI (st ++ [(i, t)]) = stI st ++ [(i, (t : Int))] := by simp [stI]
section
variable {S : Sto} {lv : Value} {m p s : Nat} {mc : Mc} {bk : Bool} {q : Nat}
theorem weight_t (hq : q < mc.n) : TQ S lv m p s mc bk 47 #[.pointer (some ⟨p, 0, none⟩), .int .i64 q] (.int .i64 (mc.wt q : Nat)) := fun T w hT h1 h2 => by
  obtain ⟨hok, rfl, rfl, rfl, rfl⟩ := hT
  have HK := tabA_ks h1
  have H := St.nil w []
  obtain ⟨cm, ok⟩ := hok.ok
  have hw := (ok.wt_get hq).1
  have hn := ok.n256
  obtain ⟨gc, oc, cc, gn, on, cn, ga, oa, ca, gh, oh, ch, e1, e2, e3, e4⟩ := hok.shapes
  have hrow := hok.hits
  rw [e4] at hrow
  have hcc : tabCells T = #[.pointer (some ⟨T.s, 0, none⟩), .int .i64 T.mc.start, T.cv, T.nv, T.av, .slice (some ⟨gh, oh, none⟩) T.mc.n ch, .bool T.back, .map (some T.km)] := by unfold tabCells; rw [e4]
  rw [hcc] at HK
  have HROW := Lib.hid hrow
  have HW := Lib.hid hw
  clear hcc hok ok h1 h2 hrow hw e1 e2 e3 e4
  generalize T.mc.wt q = wq at *
  go_enter Try.func47, Try.ntmps47
  go_wp2_with (first | refine sL ?_ | ((with_reducible refine isLoad ?_); refine AtLoad.cel rfl rfl rfl rfl (HROW.out.cell (H.known HK pk) encI_len HW.out rfl) ?_; simp only [Act.put, puA, puB, puC]))
  go_ret
  exact ⟨rfl, H⟩
end
theorem All_c (p id : Nat) (w : World) : Calls Try.prog 15 #[.pointer (some ⟨p, 0, none⟩), .int .i64 (id : Nat)] w fun e w' => ∃ b1 b2, e = .returned (.func (.func 42) #[] #[.pointer (some ⟨b1, 0, none⟩), .pointer (some ⟨b2, 0, none⟩)]) ∧ St w [] [blk b1 (.cells #[.pointer (some ⟨p, 0, none⟩)] 31), blk b2 (.cells #[.int .i64 (id : Nat)] 32)] w' := by
  have H := St.nil w []
  have HK := Ks.nil w []
  have hmf : ∀ (fn : Fn) (first cap : Array Value) (w : World), (Instr.makeFunc fn first cap).run Try.prog w = .ok (.func fn first cap) w := fun _ _ _ _ => rfl
  go_enter Try.func15, Try.ntmps15
  go_wp2_with (first | ((with_reducible refine isBox (t := 31) ?_); refine AtBox.go H rfl rfl rfl rfl ?_; simp only [Act.put, puA, puB, puC]; clear H; intro b1 _ H) | ((with_reducible refine isBox (t := 32) ?_); refine AtBox.go H rfl rfl rfl rfl ?_; simp only [Act.put, puA, puB, puC]; clear H; intro b2 _ H))
  go_ret
  exact ⟨b1, b2, rfl, (H.pick2 (A := blk b1 (.cells #[.pointer (some ⟨p, 0, none⟩)] 31)) (B := blk b2 (.cells #[.int .i64 (id : Nat)] 32)) pk pk).onlyTwo⟩
abbrev itL (T : Tab) (s : Nat) (lv : Value) (m : Nat) (S : Sto) (b1 b2 p id : Nat) : List As := [tabA T, stoA s lv m S, blk b1 (.cells #[.pointer (some ⟨p, 0, none⟩)] 31), blk b2 (.cells #[.int .i64 (id : Nat)] 32)]
theorem txt_pos {S : Sto} (hS : S.Ok) {i : Nat} (hi : i < S.list.length) : 1 ≤ (S.txt (i + 1)).length := by
  obtain ⟨y, hy⟩ : ∃ y, S.list[i]? = some y := ⟨_, List.getElem?_eq_getElem hi⟩
  rw [(S.txt_ok hS i y hy).1]
  exact (hS.good i y hy).pos
section
variable {ops : Array Oper} {a : Act} {w : World} {o : Oper} {ty : TypeId} {x : Operand} {Rr : Value → World → Prop}
theorem StStep.cel (hw : Region.wanted o (yielded ops a.tmps) = true) (ho : o.op = .load ty x) {g off : Nat} (hx : a.eval x = .pointer (some ⟨g, off, none⟩)) {v : Value} (hc : w.cell? ⟨g, off, none⟩ = some v)
    (hr : isCellT ty = true) (h : Rr v w) : StStep Try.prog ops o a w Rr :=
  StStep.val hw (by
    have hr := isCellT_ok hr
    unfold cellTy at hr
    simp only [Bool.and_eq_true, beq_iff_eq] at hr
    have hl : (Instr.loadAt ty (.pointer (some ⟨g, off, none⟩))).run Try.prog w = .ok v w := by
      cases hu : Try.prog.underlying ty with
      | none => simp [hu] at hr
      | some d =>
        have hagg : (isAgg ty).run Try.prog w = .ok false w := by
          unfold isAgg
          rw [Sem.run_bind, run_underlying hu w]
          simp only [hu] at hr
          cases d <;> simp_all
        simp [Instr.loadAt, Instr.sureAddr, loadVar, Sem.run_bind, hagg, run_load, hc]
    unfold execOp; simp only [ho, hx, Sem.run_bind, hl, Result.andThen_ok]; rfl) h
end
def ALRel (S : Sto) (lv : Value) (m p s : Nat) (mc : Mc) (XS : List (Nat × Nat)) (id b1 b2 : Nat) (M : List Nat) (B : Nat) (J : List (Nat × Nat) → World → Prop) (k : Nat) (v4 v5 v6 : Value) (wr : World) : Prop :=
  ∃ T q at_ st pre, v4 = .int .i64 (q : Nat) ∧ v5 = .int .i64 (at_ : Nat) ∧ AInv S mc XS id q at_ st pre ∧ k = stkM S st ∧ TK S p s mc false T ∧ Its M B [tabA T, stoA s lv m S, blk b1 (.cells #[.pointer (some ⟨p, 0, none⟩)] 31), blk b2 (.cells #[.int .i64 (id : Nat)] 32), rowsA encQ 94 2 v6 (stI st)] wr ∧ J pre wr
theorem St.five {w0 w : World} {M : List Nat} {L R1 R2 R3 R4 R5 : List As} {A B C D E : As} (h : St w0 M L w) (h1 : Pick L A R1) (h2 : Pick R1 B R2) (h3 : Pick R2 C R3) (h4 : Pick R3 D R4) (h5 : Pick R4 E R5) : St w0 M [A, B, C, D, E] w := by
  have k := h.perm (h1.perm.trans ((h2.perm.trans ((h3.perm.trans ((h4.perm.trans (h5.perm.cons _)).cons _)).cons _)).cons _))
  refine ⟨k.os, k.tape, k.output, k.size, k.keep, fun X hX => k.ho X ?_, fun X hX => k.own X ?_, ?_⟩
  · simp only [List.mem_cons, List.not_mem_nil, or_false] at hX ⊢
    rcases hX with h | h | h | h | h <;> simp [h]
  · simp only [List.mem_cons, List.not_mem_nil, or_false] at hX ⊢
    rcases hX with h | h | h | h | h <;> simp [h]
  · have hd := k.dis
    have : [A, B, C, D, E] = (A :: B :: C :: D :: E :: R5).take 5 := rfl
    rw [this]
    exact hd.sublist (List.take_sublist _ _)
inductive Held (P : Prop) : Prop | mk (h : P) : Held P
theorem Held.out {P : Prop} : Held P → P | .mk h => h
theorem stopHere {P : Prop} (h : Held P) : P := h.out
theorem toIn20 (n : Nat) {ops : Array Oper} {Q : Exit → Act → World → Prop} {a : Act} {w : World} (h : Held ((Code.region 20 ops false).wpIn Fence.wide n Try.prog Q a w)) : (Code.region 20 ops false).wp Try.prog Q a w := wpIn_wide.1 h.out
attribute [local go_sem] StStep stAt stUpon in
theorem All1_seq {S : Sto} {lv : Value} {m p s : Nat} {mc : Mc} {id b1 b2 : Nat} {T0 : Tab} {M MB : List Nat} {w : World} {n : Nat} (hS : S.Ok) (hid : id ≤ S.list.length) (hT0 : TK S p s mc false T0) (hM : ∀ b ∈ fps (itL T0 s lv m S b1 b2 p id), b ∈ M) (hdj : ∀ b ∈ M, b ∉ MB) (hMl : ∀ b ∈ M, b < w.heap.size) (hMBl : ∀ b ∈ MB, b < w.heap.size)
    (hL : St w M (itL T0 s lv m S b1 b2 p id) w) :
    SeqT Fence.wide n Try.prog 42 #[.pointer (some ⟨b1, 0, none⟩), .pointer (some ⟨b2, 0, none⟩)] (fun x : Nat × Nat => #[.int .i64 (x.1 : Nat), .int .i64 (x.2 : Nat)]) M MB (fun pre x => pre ++ [x] <+: ends (mc.hits mc.start (S.txt id)) 0) (· = ends (mc.hits mc.start (S.txt id)) 0) (· <+: ends (mc.hits mc.start (S.txt id)) 0) w := by
  intro l J Jx W hW hl hWs hJ hJx hY h0
  subst hl
  obtain ⟨cm, ok⟩ := hT0.mok
  have hst := ok.start
  have hIt : Its M W.heap.size (itL T0 s lv m S b1 b2 p id) W := ⟨fun A hA => A.loc w W (fun b hb => hW.block b (A.lt w (hL.ho A hA) b hb)) (hL.ho A hA), fun A hA b hb => .inl (hM b (List.mem_flatMap.2 ⟨A, hA, hb⟩)), hL.dis, Nat.le_refl _⟩
  have hXSe : ends (mc.hits mc.start (S.txt 0)) 0 = [] := by rw [S.txt_zero]; rfl
  have HM256 := ok.n256
  have HSTP : Hid (∀ q b, q < mc.n → b < 256 → mc.step q b < mc.n) := Lib.hid fun q b hq hb => ok.step_lt hq hb
  have HWT : Hid (∀ q, q < mc.n → mc.wt q ≤ 1048576) := Lib.hid fun q hq => (ok.wt_get hq).2
  have HLT : Hid (∀ i, i < S.list.length → ∀ q, q < mc.n → ∀ k, itr (S.stp mc false (i + 1)) k q < mc.n) := Lib.hid fun i hi q hq k => itr_lt (stp_lt ok hS false hi) hq
  have HC : Hid (∀ i, i < S.list.length → ∃ x kd lt lf rt tm, S.list[i]? = some x ∧ ruleL x.r = [.int .i64 (kd : Nat), .int .u8 (lt : Nat), .int .i64 (lf : Nat), .int .i64 (rt : Nat), .int .i64 (tm : Nat)] ∧ DCase S false i kd lt lf rt tm) := Lib.hid fun i hi => dcase hS false hi
  have hinit : 1 ≤ id → AInv S mc (ends (mc.hits mc.start (S.txt id)) 0) id mc.start 0 [(id, 1)] [] := fun h1 => by
    have hT : stkT S [(id, 1)] = S.txt id := by
      have := stkT_snoc S [] (id, 1)
      rw [List.nil_append] at this
      rw [this, rep_one]
      simp [stkT]
    have := txt_max hS hid
    refine ⟨by rw [hT]; rfl, by rw [hT]; omega, hst, fun p hp => ?_, fun j p hj => ?_⟩
    · have : p = (id, 1) := by simpa using hp
      subst this
      simp only; omega
    · cases j with
      | zero => have : (id, 1) = p := by simpa using hj
                subst this
                simp only; omega
      | succ j => simp at hj
  have HINIT := Lib.hid hinit
  have hlen : S.list.length ≤ 1048576 := by have := hS.len; have := hS.most; omega
  have HS := Lib.hid hS
  have HOK := Lib.hid ok
  have HT := Lib.hid hT0
  have HJ := Lib.hid hJ
  have HY := Lib.hid hY
  have HJ0 := Lib.hid h0
  have HIT := Lib.hid hIt
  have HDJ : Hid (∀ b ∈ M, b ∉ (w.heap.size + 1) :: MB) := Lib.hid fun b hb hx => by
    rcases List.mem_cons.1 hx with h | h
    · have := hMl b hb; omega
    · exact hdj b hb h
  have HMB : Hid (∀ b ∈ (w.heap.size + 1) :: MB, b < W.heap.size) := Lib.hid fun b hb => by
    rcases List.mem_cons.1 hb with h | h
    · omega
    · have := hMBl b h; omega
  have HCK := Lib.hid (check_t (S := S) (lv := lv) (m := m) (p := p) (s := s) (mc := mc) hid)
  have HXE : Hid (id = 0 → ends (mc.hits mc.start (S.txt id)) 0 = []) := Lib.hid fun h => by rw [h]; exact hXSe
  have H := hIt.st
  have HK := Ks.nil W (fps (itL T0 s lv m S b1 b2 p id))
  refine callsIn_wide.2 ?_
  simp only [List.append_toArray, List.cons_append, List.nil_append, List.append_eq]
  clear hS hT0 hM hdj hMl hMBl hL hW hJ hJx hY h0 ok hIt hXSe hinit
  generalize hXS : ends (mc.hits mc.start (S.txt id)) 0 = XS at *
  clear hXS
  rcases Nat.eq_zero_or_pos id with h0 | h0
  · have hx := HXE.out h0
    have hz : ((id : Int) == 0) = true := by simp; omega
    clear h0
    subst hx
    go_enter Try.func42, Try.ntmps42
    go_wp2_with (first | refine sL ?_ | (refine sS ?_; clear H; intro _ H) | (refine sA ?_; clear H; intro _ _ H) | refine sF ?_ | (go_at_call 34; with_reducible refine TQ.use (HCK.out) HT.out H pk ts ?_; clear H; intro _ H))
    refine bodyPost_ret (results_none rfl _ _ _) rfl ?_
    obtain ⟨_, ht⟩ := HIT.out.of H
    exact ⟨⟨_, rfl⟩, .inl ⟨[], rfl, HJ.out _ _ _ HJ0.out ht⟩⟩
  · have hz : ((id : Int) == 0) = false := by simp; omega
    have HIN := Lib.hid (HINIT.out h0)
    go_enter Try.func42, Try.ntmps42
    go_wp2_with (first | refine sL ?_ | (refine sS ?_; clear H; intro _ H) | (refine sA ?_; clear H; intro _ _ H) | refine sF ?_ | (go_at_call 34; with_reducible refine TQ.use (HCK.out) HT.out H pk ts ?_; clear H; intro _ H) | (go_at_call 39; with_reducible refine machine_use HT.out H pk ?_; clear H; intro g1 o1 d1 g2 o2 d2 g3 o3 d3 _ H) | ((with_reducible refine isSlice ?_); refine AtSlice.one H rfl rfl rfl rfl rfl rfl rfl rfl rfl ?_; clear H; intro b9 _ H; simp only [Act.put, puA, puB, puC]))
    replace H := H.conv (A' := rowsA encQ 94 2 (.slice (some ⟨b9, 0, none⟩) 1 1) [(id, 1)]) (by rw [rowsA_fp', blk_fp]; rfl) fun hb => rowsA_of_blk (xs := [(id, (1 : Int))]) (by rw [blk_ho] at hb; exact hb) (by simp [maxLen]) (by simp [flatG, encQ]) encQ_len
    go_loopg [4, 5, 6] (stkM S [(id, 1)]) (fun k v4 v5 v6 wr => ALRel S lv m p s mc XS id b1 b2 M W.heap.size J k v4 v5 v6 wr)
    case atStart =>
      have H5 := H.five (A := tabA T0) (B := stoA s lv m S) (C := blk b1 (.cells #[.pointer (some ⟨p, 0, none⟩)] 31)) (D := blk b2 (.cells #[.int .i64 (id : Nat)] 32)) (E := rowsA encQ 94 2 (.slice (some ⟨b9, 0, none⟩) 1 1) [(id, 1)]) pk pk pk pk pk
      obtain ⟨h5, ht⟩ := HIT.out.of H5
      exact ⟨T0, mc.start, 0, [(id, 1)], [], rfl, rfl, HIN.out, rfl, HT.out, h5, HJ.out _ _ _ HJ0.out ht⟩
    case round =>
      clear H HT HIN HIT HJ0
      obtain ⟨T, q, at_, st0, pre, rfl, rfl, hinv, hk, hT, hit, hj⟩ := hrel
      have HT := Lib.hid hT
      have HIT := Lib.hid hit
      have HJ0 := Lib.hid hj
      have H := hit.st
      have HK0 := Lib.hid hk
      have HK := Ks.nil wr (fps [tabA T, stoA s lv m S, blk b1 (.cells #[.pointer (some ⟨p, 0, none⟩)] 31), blk b2 (.cells #[.int .i64 (id : Nat)] 32), rowsA encQ 94 2 u6 (stI st0)])
      clear hT hit hj hk
      rcases List.eq_nil_or_concat st0 with rfl | ⟨st, ⟨ti, tt⟩, rfl⟩
      · obtain ⟨ad3, c3, rfl, _⟩ := rowsA_shape (H.get (A := rowsA encQ 94 2 u6 []) pk)
        have HTX := Lib.hid hinv.txt
        clear hinv
        go_wp2_with (first | refine sL ?_ | (refine sS ?_; clear H; intro _ H) | (refine sA ?_; clear H; intro _ _ H) | refine sF ?_)
        go_end0
        have h9 := HTX.out
        have hnil : ends (mc.hits q (stkT S [])) at_ = [] := rfl
        rw [hnil, List.append_nil] at h9
        obtain ⟨_, ht⟩ := HIT.out.of H
        exact ⟨⟨_, rfl⟩, .inl ⟨_, h9, HJ.out _ _ _ HJ0.out ht⟩⟩
      · simp only [List.concat_eq_append, stI_snoc] at H hinv HK HIT HK0
        obtain ⟨g3, c3, rfl, hgc3, hcm3⟩ := rowsA_cases (H.get (A := rowsA encQ 94 2 u6 (stI st ++ [(ti, (tt : Int))])) pk) (by simp)
        simp only [List.length_append, List.length_singleton, stI_len] at H hgc3 HK HIT ⊢
        unfold maxLen at hcm3
        have hent := hinv.ent (ti, tt) (by simp)
        simp only at hent
        obtain ⟨he1, he2, he3, he4⟩ := hent
        obtain ⟨i, rfl⟩ : ∃ i, ti = i + 1 := ⟨ti - 1, by omega⟩
        have hpos := (pos_init hinv.pos).2
        simp only at hpos
        have hq := hinv.lt
        have htxl := hinv.len
        rw [stkT_snoc, List.length_append, rep_len] at htxl
        simp only at htxl
        have HINV := Lib.hid hinv
        have HSK := Lib.hid (skip_s (lv := lv) (m := m) (p := p) (s := s) (bk := false) HS.out (i := i) (by omega) hq he4)
        have HSZ := Lib.hid (ssize_s (lv := lv) (m := m) (p := p) (s := s) (mc := mc) (bk := false) HS.out (i := i) (by omega))
        have hcl := skC_le (f := S.stp mc false (i + 1)) (h := S.hit mc false (i + 1)) tt q
        have hno := skC_no (f := S.stp mc false (i + 1)) (h := S.hit mc false (i + 1)) tt q
        have hye := skC_yes (f := S.stp mc false (i + 1)) (h := S.hit mc false (i + 1)) tt q
        have hqn := HLT.out i (by omega) q hq (skC (S.stp mc false (i + 1)) (S.hit mc false (i + 1)) tt q)
        have hzero : mc.sum q (rep (skC (S.stp mc false (i + 1)) (S.hit mc false (i + 1)) tt q) (S.txt (i + 1))) = 0 := Mc.sum_rep_zero (l := S.txt (i + 1)) fun c hc => by
          have := of_decide_eq_false (hno c hc)
          exact Nat.le_zero.1 (Nat.not_lt.1 this)
        have hlast : (stI st ++ [(i + 1, (tt : Int))])[st.length]? = some (i + 1, (tt : Int)) := by
          have := stI_len st
          rw [List.getElem?_append_right (by omega), this, Nat.sub_self]; rfl
        have HLAST := Lib.hid hlast
        have hslen : st.length ≤ 2097152 := by omega
        generalize hcc : skC (S.stp mc false (i + 1)) (S.hit mc false (i + 1)) tt q = cc at *
        have hyes : cc < tt → 0 < mc.sum (itr (S.stp mc false (i + 1)) cc q) (S.txt (i + 1)) := fun h => of_decide_eq_true (hye h)
        have hnone : cc = tt → AInv S mc XS id (itr (S.stp mc false (i + 1)) cc q) (at_ + cc * (S.txt (i + 1)).length) st pre ∧ stkM S st + tt * wE S (i + 1) = stkM S (st ++ [(i + 1, tt)]) := fun h => by
          subst h
          exact hinv.none hqn hzero
        have HITT : Hid (∀ st', cc < tt → ((st' = st ∧ tt - cc - 1 = 0) ∨ (st' = st ++ [(i + 1, tt - cc - 1)] ∧ 0 < tt - cc - 1)) → AHit S mc XS id (itr (S.stp mc false (i + 1)) cc q) (at_ + cc * (S.txt (i + 1)).length) st' pre (i + 1) (stkM S (st ++ [(i + 1, tt)]))) := Lib.hid fun st' h h' => hinv.hit hqn h hzero (hyes h) h'
        have hwp : 1 ≤ wE S (i + 1) := by
          have := txt_pos HS.out (i := i) (by omega)
          unfold wE; omega
        clear hlast hinv hno hye hcc hzero
        generalize hq2 : itr (S.stp mc false (i + 1)) cc q = q2 at *
        have htl : cc * (S.txt (i + 1)).length ≤ tt * (S.txt (i + 1)).length := Nat.mul_le_mul_right _ hcl
        generalize hln : (S.txt (i + 1)).length = ln at *
        have hp : (cc : Int) * (ln : Int) = ((cc * ln : Nat) : Int) := (Int.natCast_mul cc ln).symm
        have hpb : at_ + cc * ln ≤ 1152921504606846976 := by omega
        generalize hpr : cc * ln = pr at *
        have hil : (i : Int) + 1 ≤ 1048576 := by omega
        have hls := stI_len st
        generalize hsl : st.length = sl at *
        generalize hstI : stI st = si at *
        have HSI := Lib.hid hstI
        have HSL := Lib.hid hls
        clear hq2 hln hpr hsl hstI hpos
        go_wp2_with (first | refine sL ?_ | (refine sS ?_; clear H; intro _ H) | (refine sA ?_; clear H; intro _ _ H) | refine sF ?_)
        refine wp_region_sgx 16 [⟨[], fun v _ => v = .pointer (some ⟨p, 0, none⟩)⟩, ⟨[], fun v _ => v = .pointer (some ⟨g3, sl * 2, none⟩)⟩, ⟨[1], fun v _ => v = .pointer (some ⟨g3, sl * 2, none⟩)⟩, ⟨[2], fun v _ => v = .pointer (some ⟨g3, sl * 2, none⟩)⟩, ⟨[3], fun v _ => v = .int .i64 ((i : Int) + 1)⟩, ⟨[], fun v _ => v = .int .i64 q⟩, ⟨[], fun v _ => v = .pointer (some ⟨g3, sl * 2, none⟩)⟩, ⟨[6], fun v _ => v = .pointer (some ⟨g3, sl * 2, none⟩)⟩, ⟨[7], fun v _ => v = .pointer (some ⟨g3, sl * 2 + 1, none⟩)⟩, ⟨[8], fun v _ => v = .int .i64 (tt : Nat)⟩, ⟨[0, 4, 5, 9], fun v _ => v = .tuple #[.int .i64 (cc : Nat), .int .i64 (q2 : Nat)]⟩, ⟨[10], fun v _ => v = .tuple #[.int .i64 (cc : Nat), .int .i64 (q2 : Nat)]⟩, ⟨[11], fun v _ => v = .int .i64 (cc : Nat)⟩, ⟨[11], fun v _ => v = .int .i64 (q2 : Nat)⟩, ⟨[12], fun v _ => v = .int .i64 (cc : Nat)⟩, ⟨[13], fun v _ => v = .int .i64 (q2 : Nat)⟩] [10] [[0], [0], [0], [0], [0], [0], [0], [0], [0], [0], [0], [1], [1], [1], [1], [1]] [fun _ wx => St wr (fps [tabA T, stoA s lv m S, blk b1 (.cells #[.pointer (some ⟨p, 0, none⟩)] 31), blk b2 (.cells #[.int .i64 (id : Nat)] 32), rowsA encQ 94 2 (.slice (some ⟨g3, 0, none⟩) (sl + 1) c3) (si ++ [(i + 1, (tt : Int))])]) [tabA T, stoA s lv m S, blk b1 (.cells #[.pointer (some ⟨p, 0, none⟩)] 31), blk b2 (.cells #[.int .i64 (id : Nat)] 32), rowsA encQ 94 2 (.slice (some ⟨g3, 0, none⟩) (sl + 1) c3) (si ++ [(i + 1, (tt : Int))])] wx, fun _ wx => ∃ T2, TK S p s mc false T2 ∧ St wr (fps [tabA T, stoA s lv m S, blk b1 (.cells #[.pointer (some ⟨p, 0, none⟩)] 31), blk b2 (.cells #[.int .i64 (id : Nat)] 32), rowsA encQ 94 2 (.slice (some ⟨g3, 0, none⟩) (sl + 1) c3) (si ++ [(i + 1, (tt : Int))])]) [tabA T2, stoA s lv m S, blk b1 (.cells #[.pointer (some ⟨p, 0, none⟩)] 31), blk b2 (.cells #[.int .i64 (id : Nat)] 32), rowsA encQ 94 2 (.slice (some ⟨g3, 0, none⟩) (sl + 1) c3) (si ++ [(i + 1, (tt : Int))])] wx]
          [[], [], [(1, 38)], [(2, 39)], [(3, 40)], [], [], [(6, 43)], [(7, 44)], [(8, 45)], [(0, 37), (4, 41), (5, 42), (9, 46)], [(10, 47)], [(11, 36)], [(11, 36)], [(12, 48)], [(13, 49)]] [(0, 37), (1, 38), (2, 39), (3, 40), (4, 41), (5, 42), (6, 43), (7, 44), (8, 45), (9, 46), (10, 47), (11, 36), (12, 48), (13, 49), (14, 8), (15, 9)] (by kernel_rfl) (by kernel_rfl) H.drew ⟨⟨?a0s0, trivial⟩, ⟨?a1s0, trivial⟩, ⟨?a2s0, trivial⟩, ⟨?a3s0, trivial⟩, ⟨?a4s0, trivial⟩, ⟨?a5s0, trivial⟩, ⟨?a6s0, trivial⟩, ⟨?a7s0, trivial⟩, ⟨?a8s0, trivial⟩, ⟨?a9s0, trivial⟩, ⟨?a10s0, trivial⟩, ⟨?a11s1, trivial⟩, ⟨?a12s1, trivial⟩, ⟨?a13s1, trivial⟩, ⟨?a14s1, trivial⟩, ⟨?a15s1, trivial⟩, trivial⟩ ?afin
        case a0s0 =>
          intro vals wx hd HC
          clear hd
          have HC' := HC
          simp only [cAt, List.getD_cons_succ, List.getD_cons_zero] at HC'
          have H := HC'; clear HC'
          simp only [putS, List.foldl_nil]
          first | refine StStep.cellT rfl rfl rfl gt rfl rfl ⟨rfl, HC⟩ | refine StStep.wholeT rfl rfl rfl gt rfl ⟨rfl, HC⟩
        case a1s0 =>
          intro vals wx hd HC
          clear hd
          simp only [putS, List.foldl_nil]
          go_simp
          first | exact HC | exact ⟨rfl, HC⟩ | exact ⟨IntWalk.i64_in _ (by omega), HC⟩
        case a2s0 =>
          intro vals wx hd HC
          have h1 : vals 1 = .pointer (some ⟨g3, sl * 2, none⟩) := hd.1
          clear hd
          simp only [putS, List.foldl_nil, List.foldl_cons, Act.put, List.setIfInBounds_toArray, List.set_cons_zero, List.set_cons_succ, h1]
          clear h1
          go_simp
          first | exact HC | exact ⟨rfl, HC⟩ | exact ⟨IntWalk.i64_in _ (by omega), HC⟩
        case a3s0 =>
          intro vals wx hd HC
          have h2 : vals 2 = .pointer (some ⟨g3, sl * 2, none⟩) := hd.1
          clear hd
          simp only [putS, List.foldl_nil, List.foldl_cons, Act.put, List.setIfInBounds_toArray, List.set_cons_zero, List.set_cons_succ, h2]
          clear h2
          go_simp
          first | exact HC | exact ⟨rfl, HC⟩ | exact ⟨IntWalk.i64_in _ (by omega), HC⟩
        case a4s0 =>
          intro vals wx hd HC
          have h3 : vals 3 = .pointer (some ⟨g3, sl * 2, none⟩) := hd.1
          clear hd
          have HC' := HC
          simp only [cAt, List.getD_cons_succ, List.getD_cons_zero] at HC'
          have H := HC'; clear HC'
          simp only [putS, List.foldl_nil, List.foldl_cons, Act.put, List.setIfInBounds_toArray, List.set_cons_zero, List.set_cons_succ, h3]
          refine StStep.cel rfl rfl rfl (rowsA_cell (H.get (A := rowsA encQ 94 2 (.slice (some ⟨g3, 0, none⟩) (sl + 1) c3) (si ++ [(i + 1, (tt : Int))])) pk) encQ_len HLAST.out (j := 0) rfl) rfl ⟨rfl, HC⟩
        case a5s0 =>
          intro vals wx hd HC
          clear hd
          simp only [putS, List.foldl_nil]
          go_simp
          first | exact HC | exact ⟨rfl, HC⟩ | exact ⟨IntWalk.i64_in _ (by omega), HC⟩
        case a6s0 =>
          intro vals wx hd HC
          clear hd
          simp only [putS, List.foldl_nil]
          go_simp
          first | exact HC | exact ⟨rfl, HC⟩ | exact ⟨IntWalk.i64_in _ (by omega), HC⟩
        case a7s0 =>
          intro vals wx hd HC
          have h6 : vals 6 = .pointer (some ⟨g3, sl * 2, none⟩) := hd.1
          clear hd
          simp only [putS, List.foldl_nil, List.foldl_cons, Act.put, List.setIfInBounds_toArray, List.set_cons_zero, List.set_cons_succ, h6]
          clear h6
          go_simp
          first | exact HC | exact ⟨rfl, HC⟩ | exact ⟨IntWalk.i64_in _ (by omega), HC⟩
        case a8s0 =>
          intro vals wx hd HC
          have h7 : vals 7 = .pointer (some ⟨g3, sl * 2, none⟩) := hd.1
          clear hd
          simp only [putS, List.foldl_nil, List.foldl_cons, Act.put, List.setIfInBounds_toArray, List.set_cons_zero, List.set_cons_succ, h7]
          clear h7
          go_simp
          first | exact HC | exact ⟨rfl, HC⟩ | exact ⟨IntWalk.i64_in _ (by omega), HC⟩
        case a9s0 =>
          intro vals wx hd HC
          have h8 : vals 8 = .pointer (some ⟨g3, sl * 2 + 1, none⟩) := hd.1
          clear hd
          have HC' := HC
          simp only [cAt, List.getD_cons_succ, List.getD_cons_zero] at HC'
          have H := HC'; clear HC'
          simp only [putS, List.foldl_nil, List.foldl_cons, Act.put, List.setIfInBounds_toArray, List.set_cons_zero, List.set_cons_succ, h8]
          refine StStep.cel rfl rfl rfl (rowsA_cell (H.get (A := rowsA encQ 94 2 (.slice (some ⟨g3, 0, none⟩) (sl + 1) c3) (si ++ [(i + 1, (tt : Int))])) pk) encQ_len HLAST.out (j := 1) rfl) rfl ⟨rfl, HC⟩
        case a10s0 =>
          intro vals wx hd HC
          have h0 : vals 0 = .pointer (some ⟨p, 0, none⟩) := hd.1
          have h4 : vals 4 = .int .i64 ((i : Int) + 1) := hd.2.1
          have h5 : vals 5 = .int .i64 q := hd.2.2.1
          have h9 : vals 9 = .int .i64 (tt : Nat) := hd.2.2.2.1
          clear hd
          have HC' := HC
          simp only [cAt, List.getD_cons_succ, List.getD_cons_zero] at HC'
          have H := HC'; clear HC'
          simp only [putS, List.foldl_nil, List.foldl_cons, Act.put, List.setIfInBounds_toArray, List.set_cons_zero, List.set_cons_succ, h0, h4, h5, h9]
          clear h0 h4 h5 h9
          go_simp
          with_reducible refine TC.use HSK.out HT.out H pk ts ?_
          intro T2 _ HT2 H
          exact ⟨_, rfl, rfl, T2, HT2.out, H⟩
        case a11s1 =>
          intro vals wx hd HC
          have h10 : vals 10 = .tuple #[.int .i64 (cc : Nat), .int .i64 (q2 : Nat)] := hd.1
          clear hd
          simp only [putS, List.foldl_nil, List.foldl_cons, Act.put, List.setIfInBounds_toArray, List.set_cons_zero, List.set_cons_succ, h10]
          clear h10
          go_simp
          first | exact HC | exact ⟨rfl, HC⟩ | exact ⟨IntWalk.i64_in _ (by omega), HC⟩
        case a12s1 =>
          intro vals wx hd HC
          have h11 : vals 11 = .tuple #[.int .i64 (cc : Nat), .int .i64 (q2 : Nat)] := hd.1
          clear hd
          simp only [putS, List.foldl_nil, List.foldl_cons, Act.put, List.setIfInBounds_toArray, List.set_cons_zero, List.set_cons_succ, h11]
          clear h11
          go_simp
          first | exact HC | exact ⟨rfl, HC⟩ | exact ⟨IntWalk.i64_in _ (by omega), HC⟩
        case a13s1 =>
          intro vals wx hd HC
          have h11 : vals 11 = .tuple #[.int .i64 (cc : Nat), .int .i64 (q2 : Nat)] := hd.1
          clear hd
          simp only [putS, List.foldl_nil, List.foldl_cons, Act.put, List.setIfInBounds_toArray, List.set_cons_zero, List.set_cons_succ, h11]
          clear h11
          go_simp
          first | exact HC | exact ⟨rfl, HC⟩ | exact ⟨IntWalk.i64_in _ (by omega), HC⟩
        case a14s1 =>
          intro vals wx hd HC
          have h12 : vals 12 = .int .i64 (cc : Nat) := hd.1
          clear hd
          simp only [putS, List.foldl_nil, List.foldl_cons, Act.put, List.setIfInBounds_toArray, List.set_cons_zero, List.set_cons_succ, h12]
          clear h12
          go_simp
          first | exact HC | exact ⟨rfl, HC⟩ | exact ⟨IntWalk.i64_in _ (by omega), HC⟩
        case a15s1 =>
          intro vals wx hd HC
          have h13 : vals 13 = .int .i64 (q2 : Nat) := hd.1
          clear hd
          simp only [putS, List.foldl_nil, List.foldl_cons, Act.put, List.setIfInBounds_toArray, List.set_cons_zero, List.set_cons_succ, h13]
          clear h13
          go_simp
          first | exact HC | exact ⟨rfl, HC⟩ | exact ⟨IntWalk.i64_in _ (by omega), HC⟩
        intro vals wx hd HC
        have h0 : vals 0 = .pointer (some ⟨p, 0, none⟩) := hd.1
        have h1 : vals 1 = .pointer (some ⟨g3, sl * 2, none⟩) := hd.2.1
        have h2 : vals 2 = .pointer (some ⟨g3, sl * 2, none⟩) := hd.2.2.1
        have h3 : vals 3 = .pointer (some ⟨g3, sl * 2, none⟩) := hd.2.2.2.1
        have h4 : vals 4 = .int .i64 ((i : Int) + 1) := hd.2.2.2.2.1
        have h5 : vals 5 = .int .i64 q := hd.2.2.2.2.2.1
        have h6 : vals 6 = .pointer (some ⟨g3, sl * 2, none⟩) := hd.2.2.2.2.2.2.1
        have h7 : vals 7 = .pointer (some ⟨g3, sl * 2, none⟩) := hd.2.2.2.2.2.2.2.1
        have h8 : vals 8 = .pointer (some ⟨g3, sl * 2 + 1, none⟩) := hd.2.2.2.2.2.2.2.2.1
        have h9 : vals 9 = .int .i64 (tt : Nat) := hd.2.2.2.2.2.2.2.2.2.1
        have h10 : vals 10 = .tuple #[.int .i64 (cc : Nat), .int .i64 (q2 : Nat)] := hd.2.2.2.2.2.2.2.2.2.2.1
        have h11 : vals 11 = .tuple #[.int .i64 (cc : Nat), .int .i64 (q2 : Nat)] := hd.2.2.2.2.2.2.2.2.2.2.2.1
        have h12 : vals 12 = .int .i64 (cc : Nat) := hd.2.2.2.2.2.2.2.2.2.2.2.2.1
        have h13 : vals 13 = .int .i64 (q2 : Nat) := hd.2.2.2.2.2.2.2.2.2.2.2.2.2.1
        have h14 : vals 14 = .int .i64 (cc : Nat) := hd.2.2.2.2.2.2.2.2.2.2.2.2.2.2.1
        have h15 : vals 15 = .int .i64 (q2 : Nat) := hd.2.2.2.2.2.2.2.2.2.2.2.2.2.2.2.1
        clear hd
        simp only [cAt, List.getD_cons_succ, List.getD_cons_zero, List.length_cons, List.length_nil] at HC
        obtain ⟨T2, hT2, H⟩ := HC
        simp only [putS, List.foldl_nil, List.foldl_cons, Act.put, List.setIfInBounds_toArray, List.set_cons_zero, List.set_cons_succ, List.drop_succ_cons, List.drop_zero, h0, h1, h2, h3, h4, h5, h6, h7, h8, h9, h10, h11, h12, h13, h14, h15]
        clear h0 h1 h2 h3 h4 h5 h6 h7 h8 h9 h10 h11 h12 h13 h14 h15
        go_wp2_with (first | refine sL ?_ | (refine sS ?_; clear H; intro _ H) | (refine sA ?_; clear H; intro _ _ H) | refine sF ?_)
        have HT := Lib.hid hT2
        clear hT2
        refine wp_region_h H 11 [] [] (by kernel_rfl) (by kernel_rfl) ?_
        apply Exists.intro
        refine ⟨fun w1 hw1 HX => ?_, fun bs wr Hr => ?_⟩
        · refine sG ?_
          repeat (first | refine sQ ?_ | ((with_reducible refine isQLoad ?_); refine QtLoad.cel rfl rfl rfl rfl (fun y => rowsA_cell ((HX y).get (A := rowsA encQ 94 2 (.slice (some ⟨g3, 0, none⟩) (sl + 1) c3) (si ++ [(i + 1, (tt : Int))])) pk) encQ_len HLAST.out (j := 0) rfl) ?_; simp only [Act.put, puA, puB, puC]) | go_big_quiet_step ((go_at_call 36; with_reducible exact quiet_st_x (TQ.at HSZ.out HT.out ((HX _).get (A := tabA T2) pk) ((HX _).get (A := stoA s lv m S) pk)))) | go_big_quiet_step (fail))
          exact wpQuiet_nil rfl
        clear H
        have H := Hr
        clear Hr
        replace H := sH H; refine sT ?_
        have HSET : Hid (∀ V : Int, (si ++ [(i + 1, (tt : Int))]).set sl (i + 1, V) = si ++ [(i + 1, V)]) := Lib.hid fun V => by
          rw [← HSL.out, List.set_append_right _ _ (Nat.le_refl _), Nat.sub_self]; rfl
        have HLV : Hid (∀ V : Int, (si ++ [(i + 1, V)])[sl]? = some (i + 1, V)) := Lib.hid fun V => by
          rw [← HSL.out, List.getElem?_append_right (Nat.le_refl _), Nat.sub_self]; rfl
        have HST := Lib.hid (store_t (S := S) (lv := lv) (m := m) (p := p) (s := s) (mc := mc) (bk := false))
        obtain ⟨x, kd, lt, lf, rt, tm, hx, he, hcase⟩ := HC.out i (by omega)
        have HRU := Lib.hid (rule_t (lv := lv) (m := m) (p := p) (s := s) (mc := mc) (bk := false) hx he)
        clear hx he
        rcases Nat.lt_or_ge cc tt with hct | hct
        · have HNB : Hid (∀ st', ((st' = st ∧ tt - cc - 1 = 0) ∨ (st' = st ++ [(i + 1, tt - cc - 1)] ∧ 0 < tt - cc - 1)) → AHit S mc XS id q2 (at_ + pr) st' pre (i + 1) (stkM S (st ++ [(i + 1, tt)]))) := Lib.hid fun st' h => HITT.out st' hct h
          clear hnone hyes HITT hwp
          rcases Nat.eq_zero_or_pos (tt - cc - 1) with ht0 | ht0
          · have i9 : (tt : Int) - ((cc : Int) + 1) = 0 := by omega
            have HA := Lib.hid (HNB.out st (.inl ⟨rfl, ht0⟩))
            have HSI2 := Lib.hid (show stI st = si from HSI.out)
            clear ht0 HNB
            cases hcase with
            | letter b hb hd =>
              have hd' : S.txt (i + 1) = [lt] := hd
              have hq3 : mc.step q2 lt < mc.n := HSTP.out q2 lt hqn hb
              have he : mc.ends q2 (S.dtx false (i + 1)) = mc.step q2 lt := by rw [hd]; rfl
              have HEN := Lib.hid (send_s (lv := lv) (m := m) (p := p) (s := s) (bk := false) HS.out (i := i) (by omega) hqn)
              rw [he] at HEN
              have hlet := HA.out.letter hd' hq3
              have HWE := Lib.hid (weight_t (S := S) (lv := lv) (m := m) (p := p) (s := s) (bk := false) hq3)
              have hwb := HWT.out _ hq3
              generalize mc.wt (mc.step q2 lt) = wt at *
              generalize mc.step q2 lt = q3 at *
              have HR := Lib.hid hlet
              have HPX : Hid (pre ++ [(at_ + pr + 1, wt)] <+: XS) := Lib.hid (by rw [← hlet.1.txt]; exact List.prefix_append _ _)
              have hab : at_ + pr + 1 ≤ 1152921504606846976 := by have := hlet.1.len; omega
              clear hd hd' he hlet
              repeat (first | (first | refine sL ?_ | (refine sS ?_; clear H; intro _ H) | (refine sA ?_; clear H; intro _ _ H) | refine sF ?_ | ((with_reducible refine isStore ?_); refine AtStore.rowAk (enc := encQ) (k := 2) (n := sl + 1) (c := c3) (i := sl) (j := 1) H rfl rfl rfl rfl rfl rfl pk encQ_len HLAST.out (by omega) rfl (i + 1, (0 : Int)) rfl ?_; clear H; intro _ H; rw [HSET.out] at H; simp only [Act.put, puA, puB, puC]) | ((with_reducible refine isLoad ?_); refine AtLoad.cel rfl rfl rfl rfl (rowsA_cell (H.get (A := rowsA encQ 94 2 (.slice (some ⟨g3, 0, none⟩) (sl + 1) c3) (si ++ [(i + 1, (0 : Int))])) pk) encQ_len (HLV.out (0 : Int)) (j := 0) (u := .int .i64 ((i : Int) + 1)) rfl) ?_; simp only [Act.put, puA, puB, puC]) | ((with_reducible refine isLoad ?_); refine AtLoad.cel rfl rfl rfl rfl (rowsA_cell (H.get (A := rowsA encQ 94 2 (.slice (some ⟨g3, 0, none⟩) (sl + 1) c3) (si ++ [(i + 1, (0 : Int))])) pk) encQ_len (HLV.out (0 : Int)) (j := 1) rfl) ?_; simp only [Act.put, puA, puB, puC]) | ((with_reducible refine isLoad ?_); refine AtLoad.cel rfl rfl rfl rfl (rowsA_cell (H.get (A := rowsA encQ 94 2 (.slice (some ⟨g3, 0, none⟩) (sl + 1) c3) (si ++ [(i + 1, (tt : Int))])) pk) encQ_len HLAST.out (j := 1) rfl) ?_; simp only [Act.put, puA, puB, puC]) | ((with_reducible refine isCut ?_); refine AtCut.any rfl rfl rfl rfl rfl rfl (.inr ⟨_, rfl⟩) (by omega) ?_; replace H := (H.pick (A := rowsA encQ 94 2 (.slice (some ⟨g3, 0, none⟩) (sl + 1) c3) (si ++ [(i + 1, (0 : Int))])) pk).cut encQ_len HSL.out; simp only [Act.put, puA, puB, puC]) | (go_at_call 44; with_reducible refine TQ.use (HST.out) HT.out H pk ts ?_; clear H; intro _ H) | (go_at_call 45; with_reducible refine TQ.use (HRU.out) HT.out H pk ts ?_; clear H; intro _ H) | (go_at_call 46; with_reducible refine TC.use (HEN.out) HT.out H pk ts ?_; clear H; intro T' _ HT H) | (with_reducible refine toIn20 n ?_)) | go_values | go_skip | go_guarded | go_step | go_upon | go_back | (simp only [Int.not_lt, Int.not_le] at *; go_simp))
              refine .mk ?_
              have c1 : _ = some (Value.pointer (some ⟨p, 0, none⟩)) := cell_of_row _ b1 0 #[.pointer (some ⟨p, 0, none⟩)] 31 (0, 0) (H.at pk)
              gi_wp2_with (first | (refine ⟨trivial, fun h => (by cases h), ?_⟩; refine callsIn_wide.2 ?_; go_at_call 47; with_reducible refine TQ.use (HWE.out) HT.out H pk ts ?_; clear H; intro wz H; refine stopHere ?_) | (refine ⟨fun h => (by cases h), ?_⟩; refine callsIn_wide.2 ?_; go_at_call 47; with_reducible refine TQ.use (HWE.out) HT.out H pk ts ?_; clear H; intro wz H; refine stopHere ?_) | (refine ⟨trivial, ?_⟩; refine callsIn_wide.2 ?_; go_at_call 47; with_reducible refine TQ.use (HWE.out) HT.out H pk ts ?_; clear H; intro wz H; refine stopHere ?_) | (with_reducible refine callsIn_wide.2 ?_; go_at_call 47; with_reducible refine TQ.use (HWE.out) HT.out H pk ts ?_; clear H; intro wz H; refine stopHere ?_) | (go_at_call 47; with_reducible refine TQ.use (HWE.out) HT.out H pk ts ?_; clear H; intro wz H; refine stopHere ?_))
              refine .mk ?_
              clear c1
              have hl2 := H.five (A := tabA T') (B := stoA s lv m S) (C := blk b1 (.cells #[.pointer (some ⟨p, 0, none⟩)] 31)) (D := blk b2 (.cells #[.int .i64 (id : Nat)] 32)) (E := rowsA encQ 94 2 (.slice (some ⟨g3, 0, none⟩) sl c3) si) pk pk pk pk pk
              obtain ⟨hit2, ht2⟩ := HIT.out.of hl2
              rw [← HSI2.out] at hit2
              have hj2 := HJ.out _ _ _ HJ0.out ht2
              obtain ⟨fn, tmps, assign, body, hy, hR⟩ := HY.out pre (at_ + pr + 1, wt) _ hj2 hit2.le HPX.out
              dsimp only at hy
              have e1 : ((at_ + pr + 1 : Nat) : Int) = (at_ : Int) + pr + 1 := by omega
              rw [e1] at hy
              have HIT2 := Lib.hid hit2
              have HRR := Lib.hid hR
              clear hit2 ht2 hj2 hl2 hR e1
              gi_wp2_with fail
              refine ⟨fun h => (by cases h), ?_⟩
              refine HRR.out.mono ?_
              clear HRR hy
              rintro e w2 (⟨rfl, hJ2, hk2⟩ | ⟨rfl, hx2⟩)
              · have hit3 := HIT2.out.turn hk2 HDJ.out HMB.out
                have HIT3 := Lib.hid hit3
                have HJ3 := Lib.hid hJ2
                clear hit3 hJ2 hk2 H
                gi_wp2_with fail
                go_wp2_with (first | refine sL ?_ | (refine sS ?_; clear H; intro _ H) | (refine sA ?_; clear H; intro _ _ H) | refine sF ?_)
                go_roundg (stkM S st)
                case measure => rw [HK0.out]; exact HR.out.2.1
                case rel => exact ⟨T', q3, at_ + pr + 1, st, _, rfl, by go_num, HR.out.1, rfl, HT.out, HIT3.out, HJ3.out⟩
              · gi_wp2_with fail
                go_wp2_with (first | refine sL ?_ | (refine sS ?_; clear H; intro _ H) | (refine sA ?_; clear H; intro _ _ H) | refine sF ?_)
                refine bodyPost_ret (results_none rfl _ _ _) rfl ?_
                exact ⟨⟨_, rfl⟩, .inr ⟨_, HPX.out, hx2⟩⟩
            | pair l r a b hl hr ha hb hv hd =>
              have hlr : a = l ∧ b = r := by
                rcases hv with ⟨_, h1, h2⟩ | ⟨h, _⟩
                · exact ⟨h1, h2⟩
                · cases h
              obtain ⟨rfl, rfl⟩ := hlr
              have HR := Lib.hid (HA.out.pair (l := a + 1) (r := b + 1) hd (by omega) (by omega) (by omega) (by omega) (by omega) (txt_pos HS.out (by omega)) (txt_pos HS.out (by omega)))
              have HS2 : Hid (stI (st ++ [(b + 1, 1)] ++ [(a + 1, 1)]) = si ++ [(b + 1, (1 : Int)), (a + 1, 1)]) := Lib.hid (by rw [stI_snoc, stI_snoc, HSI2.out, List.append_assoc]; rfl)
              clear hd hv
              go_wp2_with (first | refine sL ?_ | (refine sS ?_; clear H; intro _ H) | (refine sA ?_; clear H; intro _ _ H) | refine sF ?_ | ((with_reducible refine isStore ?_); refine AtStore.rowAk (enc := encQ) (k := 2) (n := sl + 1) (c := c3) (i := sl) (j := 1) H rfl rfl rfl rfl rfl rfl pk encQ_len HLAST.out (by omega) rfl (i + 1, (0 : Int)) rfl ?_; clear H; intro _ H; rw [HSET.out] at H; simp only [Act.put, puA, puB, puC]) | ((with_reducible refine isLoad ?_); refine AtLoad.cel rfl rfl rfl rfl (rowsA_cell (H.get (A := rowsA encQ 94 2 (.slice (some ⟨g3, 0, none⟩) (sl + 1) c3) (si ++ [(i + 1, (0 : Int))])) pk) encQ_len (HLV.out (0 : Int)) (j := 0) (u := .int .i64 ((i : Int) + 1)) rfl) ?_; simp only [Act.put, puA, puB, puC]) | ((with_reducible refine isLoad ?_); refine AtLoad.cel rfl rfl rfl rfl (rowsA_cell (H.get (A := rowsA encQ 94 2 (.slice (some ⟨g3, 0, none⟩) (sl + 1) c3) (si ++ [(i + 1, (0 : Int))])) pk) encQ_len (HLV.out (0 : Int)) (j := 1) rfl) ?_; simp only [Act.put, puA, puB, puC]) | ((with_reducible refine isLoad ?_); refine AtLoad.cel rfl rfl rfl rfl (rowsA_cell (H.get (A := rowsA encQ 94 2 (.slice (some ⟨g3, 0, none⟩) (sl + 1) c3) (si ++ [(i + 1, (tt : Int))])) pk) encQ_len HLAST.out (j := 1) rfl) ?_; simp only [Act.put, puA, puB, puC]) | ((with_reducible refine isCut ?_); refine AtCut.any rfl rfl rfl rfl rfl rfl (.inr ⟨_, rfl⟩) (by omega) ?_; replace H := (H.pick (A := rowsA encQ 94 2 (.slice (some ⟨g3, 0, none⟩) (sl + 1) c3) (si ++ [(i + 1, (0 : Int))])) pk).cut encQ_len HSL.out; simp only [Act.put, puA, puB, puC]) | (go_at_call 44; with_reducible refine TQ.use (HST.out) HT.out H pk ts ?_; clear H; intro _ H) | (go_at_call 45; with_reducible refine TQ.use (HRU.out) HT.out H pk ts ?_; clear H; intro _ H) | ((with_reducible refine isSlice ?_); refine AtSlice.two encQ H rfl rfl rfl rfl rfl rfl rfl rfl (b + 1, 1) (a + 1, 1) rfl rfl encQ_len ?_; clear H; intro b8 _ H; simp only [Act.put, puA, puB, puC]) | ((with_reducible refine isAppend ?_); refine AtAppend.go (enc := encQ) H rfl rfl rfl rfl rfl (by decide) (by decide) rfl pk rfl (H.at pk) [(b + 1, 1), (a + 1, 1)] rfl (by simp [flatG, encQ]) encQ_len encQ_one (by simp; omega) ?_; clear H; intro ad9 cp9 _ H; simp only [Act.put, puA, puB, puC]))
              simp only [List.length_append, List.length_cons, List.length_nil, HSL.out, Nat.zero_add] at H
              rw [← HS2.out] at H
              have hl2 := H.five (A := tabA T2) (B := stoA s lv m S) (C := blk b1 (.cells #[.pointer (some ⟨p, 0, none⟩)] 31)) (D := blk b2 (.cells #[.int .i64 (id : Nat)] 32)) (E := rowsA encQ 94 2 (.slice ad9 (sl + 2) cp9) (stI (st ++ [(b + 1, 1)] ++ [(a + 1, 1)]))) pk pk pk pk pk
              obtain ⟨hit2, ht2⟩ := HIT.out.of hl2
              have HIT2 := Lib.hid hit2
              have HJ2 := Lib.hid (HJ.out _ _ _ HJ0.out ht2)
              clear hit2 ht2 hl2 H
              go_roundg (stkM S (st ++ [(b + 1, 1)] ++ [(a + 1, 1)]))
              case measure => rw [HK0.out]; exact HR.out.2
              case rel => exact ⟨T2, q2, at_ + pr, st ++ [(b + 1, 1)] ++ [(a + 1, 1)], pre, rfl, by go_num, HR.out.1, rfl, HT.out, HIT2.out, HJ2.out⟩
            | power l k hl hk hm hd =>
              have HR := Lib.hid (HA.out.power (l := l + 1) (k := tm) hd (by omega) (by omega) (by omega) (txt_pos HS.out (by omega)) hk hm)
              have HS2 : Hid (stI (st ++ [(l + 1, tm)]) = si ++ [(l + 1, (tm : Int))]) := Lib.hid (by rw [stI_snoc, HSI2.out])
              clear hd
              go_wp2_with (first | refine sL ?_ | (refine sS ?_; clear H; intro _ H) | (refine sA ?_; clear H; intro _ _ H) | refine sF ?_ | ((with_reducible refine isStore ?_); refine AtStore.rowAk (enc := encQ) (k := 2) (n := sl + 1) (c := c3) (i := sl) (j := 1) H rfl rfl rfl rfl rfl rfl pk encQ_len HLAST.out (by omega) rfl (i + 1, (0 : Int)) rfl ?_; clear H; intro _ H; rw [HSET.out] at H; simp only [Act.put, puA, puB, puC]) | ((with_reducible refine isLoad ?_); refine AtLoad.cel rfl rfl rfl rfl (rowsA_cell (H.get (A := rowsA encQ 94 2 (.slice (some ⟨g3, 0, none⟩) (sl + 1) c3) (si ++ [(i + 1, (0 : Int))])) pk) encQ_len (HLV.out (0 : Int)) (j := 0) (u := .int .i64 ((i : Int) + 1)) rfl) ?_; simp only [Act.put, puA, puB, puC]) | ((with_reducible refine isLoad ?_); refine AtLoad.cel rfl rfl rfl rfl (rowsA_cell (H.get (A := rowsA encQ 94 2 (.slice (some ⟨g3, 0, none⟩) (sl + 1) c3) (si ++ [(i + 1, (0 : Int))])) pk) encQ_len (HLV.out (0 : Int)) (j := 1) rfl) ?_; simp only [Act.put, puA, puB, puC]) | ((with_reducible refine isLoad ?_); refine AtLoad.cel rfl rfl rfl rfl (rowsA_cell (H.get (A := rowsA encQ 94 2 (.slice (some ⟨g3, 0, none⟩) (sl + 1) c3) (si ++ [(i + 1, (tt : Int))])) pk) encQ_len HLAST.out (j := 1) rfl) ?_; simp only [Act.put, puA, puB, puC]) | ((with_reducible refine isCut ?_); refine AtCut.any rfl rfl rfl rfl rfl rfl (.inr ⟨_, rfl⟩) (by omega) ?_; replace H := (H.pick (A := rowsA encQ 94 2 (.slice (some ⟨g3, 0, none⟩) (sl + 1) c3) (si ++ [(i + 1, (0 : Int))])) pk).cut encQ_len HSL.out; simp only [Act.put, puA, puB, puC]) | (go_at_call 44; with_reducible refine TQ.use (HST.out) HT.out H pk ts ?_; clear H; intro _ H) | (go_at_call 45; with_reducible refine TQ.use (HRU.out) HT.out H pk ts ?_; clear H; intro _ H) | ((with_reducible refine isSlice ?_); refine AtSlice.one H rfl rfl rfl rfl rfl rfl rfl rfl rfl ?_; clear H; intro b8 _ H; simp only [Act.put, puA, puB, puC]) | ((with_reducible refine isAppend ?_); refine AtAppend.go (enc := encQ) H rfl rfl rfl rfl rfl (by decide) (by decide) rfl pk rfl (H.at pk) [(l + 1, (tm : Int))] rfl (by simp [flatG, encQ]) encQ_len encQ_one (by simp; omega) ?_; clear H; intro ad9 cp9 _ H; simp only [Act.put, puA, puB, puC]))
              simp only [List.length_append, List.length_cons, List.length_nil, HSL.out, Nat.zero_add] at H
              rw [← HS2.out] at H
              have hl2 := H.five (A := tabA T2) (B := stoA s lv m S) (C := blk b1 (.cells #[.pointer (some ⟨p, 0, none⟩)] 31)) (D := blk b2 (.cells #[.int .i64 (id : Nat)] 32)) (E := rowsA encQ 94 2 (.slice ad9 (sl + 1) cp9) (stI (st ++ [(l + 1, tm)]))) pk pk pk pk pk
              obtain ⟨hit2, ht2⟩ := HIT.out.of hl2
              have HIT2 := Lib.hid hit2
              have HJ2 := Lib.hid (HJ.out _ _ _ HJ0.out ht2)
              clear hit2 ht2 hl2 H
              go_roundg (stkM S (st ++ [(l + 1, tm)]))
              case measure => rw [HK0.out]; exact HR.out.2
              case rel => exact ⟨T2, q2, at_ + pr, st ++ [(l + 1, tm)], pre, rfl, by go_num, HR.out.1, rfl, HT.out, HIT2.out, HJ2.out⟩
          · obtain ⟨t', ht'⟩ : ∃ t' : Nat, t' = tt - cc - 1 := ⟨_, rfl⟩
            have i9 : (tt : Int) - ((cc : Int) + 1) = (t' : Int) := by omega
            have htp : 0 < t' := by omega
            have htb : t' ≤ 1152921504606846976 := by omega
            have HA := Lib.hid (HNB.out (st ++ [(i + 1, t')]) (.inr ⟨by rw [ht'], ht0⟩))
            have HSI2 := Lib.hid (show stI (st ++ [(i + 1, t')]) = si ++ [(i + 1, (t' : Int))] from by rw [stI_snoc, HSI.out])
            have d1 : decide ((t' : Int) ≤ 0) = false := by simp; omega
            have d2 : decide (t' = 0) = false := by simp; omega
            have d3 : decide (t' ≤ 0) = false := by simp; omega
            have d4 : ((t' : Int) ≤ 0) = False := by simp; omega
            have d5 : (t' = 0) = False := by simp; omega
            clear ht0 HNB ht'
            cases hcase with
            | letter b hb hd =>
              have hd' : S.txt (i + 1) = [lt] := hd
              have hq3 : mc.step q2 lt < mc.n := HSTP.out q2 lt hqn hb
              have he : mc.ends q2 (S.dtx false (i + 1)) = mc.step q2 lt := by rw [hd]; rfl
              have HEN := Lib.hid (send_s (lv := lv) (m := m) (p := p) (s := s) (bk := false) HS.out (i := i) (by omega) hqn)
              rw [he] at HEN
              have hlet := HA.out.letter hd' hq3
              have HWE := Lib.hid (weight_t (S := S) (lv := lv) (m := m) (p := p) (s := s) (bk := false) hq3)
              have hwb := HWT.out _ hq3
              generalize mc.wt (mc.step q2 lt) = wt at *
              generalize mc.step q2 lt = q3 at *
              have HR := Lib.hid hlet
              have HPX : Hid (pre ++ [(at_ + pr + 1, wt)] <+: XS) := Lib.hid (by rw [← hlet.1.txt]; exact List.prefix_append _ _)
              have hab : at_ + pr + 1 ≤ 1152921504606846976 := by have := hlet.1.len; omega
              clear hd hd' he hlet
              repeat (first | (first | refine sL ?_ | (refine sS ?_; clear H; intro _ H) | (refine sA ?_; clear H; intro _ _ H) | refine sF ?_ | ((with_reducible refine isStore ?_); refine AtStore.rowAk (enc := encQ) (k := 2) (n := sl + 1) (c := c3) (i := sl) (j := 1) H rfl rfl rfl rfl rfl rfl pk encQ_len HLAST.out (by omega) rfl (i + 1, (t' : Int)) rfl ?_; clear H; intro _ H; rw [HSET.out] at H; simp only [Act.put, puA, puB, puC]) | ((with_reducible refine isLoad ?_); refine AtLoad.cel rfl rfl rfl rfl (rowsA_cell (H.get (A := rowsA encQ 94 2 (.slice (some ⟨g3, 0, none⟩) (sl + 1) c3) (si ++ [(i + 1, (t' : Int))])) pk) encQ_len (HLV.out (t' : Int)) (j := 0) (u := .int .i64 ((i : Int) + 1)) rfl) ?_; simp only [Act.put, puA, puB, puC]) | ((with_reducible refine isLoad ?_); refine AtLoad.cel rfl rfl rfl rfl (rowsA_cell (H.get (A := rowsA encQ 94 2 (.slice (some ⟨g3, 0, none⟩) (sl + 1) c3) (si ++ [(i + 1, (t' : Int))])) pk) encQ_len (HLV.out (t' : Int)) (j := 1) rfl) ?_; simp only [Act.put, puA, puB, puC]) | ((with_reducible refine isLoad ?_); refine AtLoad.cel rfl rfl rfl rfl (rowsA_cell (H.get (A := rowsA encQ 94 2 (.slice (some ⟨g3, 0, none⟩) (sl + 1) c3) (si ++ [(i + 1, (tt : Int))])) pk) encQ_len HLAST.out (j := 1) rfl) ?_; simp only [Act.put, puA, puB, puC]) | (go_at_call 44; with_reducible refine TQ.use (HST.out) HT.out H pk ts ?_; clear H; intro _ H) | (go_at_call 45; with_reducible refine TQ.use (HRU.out) HT.out H pk ts ?_; clear H; intro _ H) | (go_at_call 46; with_reducible refine TC.use (HEN.out) HT.out H pk ts ?_; clear H; intro T' _ HT H) | (with_reducible refine toIn20 n ?_)) | go_values | go_skip | go_guarded | go_step | go_upon | go_back | (simp only [Int.not_lt, Int.not_le] at *; go_simp))
              refine .mk ?_
              have c1 : _ = some (Value.pointer (some ⟨p, 0, none⟩)) := cell_of_row _ b1 0 #[.pointer (some ⟨p, 0, none⟩)] 31 (0, 0) (H.at pk)
              gi_wp2_with (first | (refine ⟨trivial, fun h => (by cases h), ?_⟩; refine callsIn_wide.2 ?_; go_at_call 47; with_reducible refine TQ.use (HWE.out) HT.out H pk ts ?_; clear H; intro wz H; refine stopHere ?_) | (refine ⟨fun h => (by cases h), ?_⟩; refine callsIn_wide.2 ?_; go_at_call 47; with_reducible refine TQ.use (HWE.out) HT.out H pk ts ?_; clear H; intro wz H; refine stopHere ?_) | (refine ⟨trivial, ?_⟩; refine callsIn_wide.2 ?_; go_at_call 47; with_reducible refine TQ.use (HWE.out) HT.out H pk ts ?_; clear H; intro wz H; refine stopHere ?_) | (with_reducible refine callsIn_wide.2 ?_; go_at_call 47; with_reducible refine TQ.use (HWE.out) HT.out H pk ts ?_; clear H; intro wz H; refine stopHere ?_) | (go_at_call 47; with_reducible refine TQ.use (HWE.out) HT.out H pk ts ?_; clear H; intro wz H; refine stopHere ?_))
              refine .mk ?_
              clear c1
              have hl2 := H.five (A := tabA T') (B := stoA s lv m S) (C := blk b1 (.cells #[.pointer (some ⟨p, 0, none⟩)] 31)) (D := blk b2 (.cells #[.int .i64 (id : Nat)] 32)) (E := rowsA encQ 94 2 (.slice (some ⟨g3, 0, none⟩) (sl + 1) c3) (si ++ [(i + 1, (t' : Int))])) pk pk pk pk pk
              obtain ⟨hit2, ht2⟩ := HIT.out.of hl2
              rw [← HSI2.out] at hit2
              have hj2 := HJ.out _ _ _ HJ0.out ht2
              obtain ⟨fn, tmps, assign, body, hy, hR⟩ := HY.out pre (at_ + pr + 1, wt) _ hj2 hit2.le HPX.out
              dsimp only at hy
              have e1 : ((at_ + pr + 1 : Nat) : Int) = (at_ : Int) + pr + 1 := by omega
              rw [e1] at hy
              have HIT2 := Lib.hid hit2
              have HRR := Lib.hid hR
              clear hit2 ht2 hj2 hl2 hR e1
              gi_wp2_with fail
              refine ⟨fun h => (by cases h), ?_⟩
              refine HRR.out.mono ?_
              clear HRR hy
              rintro e w2 (⟨rfl, hJ2, hk2⟩ | ⟨rfl, hx2⟩)
              · have hit3 := HIT2.out.turn hk2 HDJ.out HMB.out
                have HIT3 := Lib.hid hit3
                have HJ3 := Lib.hid hJ2
                clear hit3 hJ2 hk2 H
                gi_wp2_with fail
                go_wp2_with (first | refine sL ?_ | (refine sS ?_; clear H; intro _ H) | (refine sA ?_; clear H; intro _ _ H) | refine sF ?_)
                go_roundg (stkM S (st ++ [(i + 1, t')]))
                case measure => rw [HK0.out]; exact HR.out.2.1
                case rel => exact ⟨T', q3, at_ + pr + 1, (st ++ [(i + 1, t')]), _, rfl, by go_num, HR.out.1, rfl, HT.out, HIT3.out, HJ3.out⟩
              · gi_wp2_with fail
                go_wp2_with (first | refine sL ?_ | (refine sS ?_; clear H; intro _ H) | (refine sA ?_; clear H; intro _ _ H) | refine sF ?_)
                refine bodyPost_ret (results_none rfl _ _ _) rfl ?_
                exact ⟨⟨_, rfl⟩, .inr ⟨_, HPX.out, hx2⟩⟩
            | pair l r a b hl hr ha hb hv hd =>
              have hlr : a = l ∧ b = r := by
                rcases hv with ⟨_, h1, h2⟩ | ⟨h, _⟩
                · exact ⟨h1, h2⟩
                · cases h
              obtain ⟨rfl, rfl⟩ := hlr
              have HR := Lib.hid (HA.out.pair (l := a + 1) (r := b + 1) hd (by omega) (by omega) (by omega) (by omega) (by omega) (txt_pos HS.out (by omega)) (txt_pos HS.out (by omega)))
              have HS2 : Hid (stI ((st ++ [(i + 1, t')]) ++ [(b + 1, 1)] ++ [(a + 1, 1)]) = (si ++ [(i + 1, (t' : Int))]) ++ [(b + 1, (1 : Int)), (a + 1, 1)]) := Lib.hid (by rw [stI_snoc, stI_snoc, HSI2.out, List.append_assoc]; rfl)
              clear hd hv
              go_wp2_with (first | refine sL ?_ | (refine sS ?_; clear H; intro _ H) | (refine sA ?_; clear H; intro _ _ H) | refine sF ?_ | ((with_reducible refine isStore ?_); refine AtStore.rowAk (enc := encQ) (k := 2) (n := sl + 1) (c := c3) (i := sl) (j := 1) H rfl rfl rfl rfl rfl rfl pk encQ_len HLAST.out (by omega) rfl (i + 1, (t' : Int)) rfl ?_; clear H; intro _ H; rw [HSET.out] at H; simp only [Act.put, puA, puB, puC]) | ((with_reducible refine isLoad ?_); refine AtLoad.cel rfl rfl rfl rfl (rowsA_cell (H.get (A := rowsA encQ 94 2 (.slice (some ⟨g3, 0, none⟩) (sl + 1) c3) (si ++ [(i + 1, (t' : Int))])) pk) encQ_len (HLV.out (t' : Int)) (j := 0) (u := .int .i64 ((i : Int) + 1)) rfl) ?_; simp only [Act.put, puA, puB, puC]) | ((with_reducible refine isLoad ?_); refine AtLoad.cel rfl rfl rfl rfl (rowsA_cell (H.get (A := rowsA encQ 94 2 (.slice (some ⟨g3, 0, none⟩) (sl + 1) c3) (si ++ [(i + 1, (t' : Int))])) pk) encQ_len (HLV.out (t' : Int)) (j := 1) rfl) ?_; simp only [Act.put, puA, puB, puC]) | ((with_reducible refine isLoad ?_); refine AtLoad.cel rfl rfl rfl rfl (rowsA_cell (H.get (A := rowsA encQ 94 2 (.slice (some ⟨g3, 0, none⟩) (sl + 1) c3) (si ++ [(i + 1, (tt : Int))])) pk) encQ_len HLAST.out (j := 1) rfl) ?_; simp only [Act.put, puA, puB, puC]) | (go_at_call 44; with_reducible refine TQ.use (HST.out) HT.out H pk ts ?_; clear H; intro _ H) | (go_at_call 45; with_reducible refine TQ.use (HRU.out) HT.out H pk ts ?_; clear H; intro _ H) | ((with_reducible refine isSlice ?_); refine AtSlice.two encQ H rfl rfl rfl rfl rfl rfl rfl rfl (b + 1, 1) (a + 1, 1) rfl rfl encQ_len ?_; clear H; intro b8 _ H; simp only [Act.put, puA, puB, puC]) | ((with_reducible refine isAppend ?_); refine AtAppend.go (enc := encQ) H rfl rfl rfl rfl rfl (by decide) (by decide) rfl pk rfl (H.at pk) [(b + 1, 1), (a + 1, 1)] rfl (by simp [flatG, encQ]) encQ_len encQ_one (by simp; omega) ?_; clear H; intro ad9 cp9 _ H; simp only [Act.put, puA, puB, puC]))
              simp only [List.length_append, List.length_cons, List.length_nil, HSL.out, Nat.zero_add] at H
              rw [← HS2.out] at H
              have hl2 := H.five (A := tabA T2) (B := stoA s lv m S) (C := blk b1 (.cells #[.pointer (some ⟨p, 0, none⟩)] 31)) (D := blk b2 (.cells #[.int .i64 (id : Nat)] 32)) (E := rowsA encQ 94 2 (.slice ad9 ((sl + 1) + 2) cp9) (stI ((st ++ [(i + 1, t')]) ++ [(b + 1, 1)] ++ [(a + 1, 1)]))) pk pk pk pk pk
              obtain ⟨hit2, ht2⟩ := HIT.out.of hl2
              have HIT2 := Lib.hid hit2
              have HJ2 := Lib.hid (HJ.out _ _ _ HJ0.out ht2)
              clear hit2 ht2 hl2 H
              go_roundg (stkM S ((st ++ [(i + 1, t')]) ++ [(b + 1, 1)] ++ [(a + 1, 1)]))
              case measure => rw [HK0.out]; exact HR.out.2
              case rel => exact ⟨T2, q2, at_ + pr, (st ++ [(i + 1, t')]) ++ [(b + 1, 1)] ++ [(a + 1, 1)], pre, rfl, by go_num, HR.out.1, rfl, HT.out, HIT2.out, HJ2.out⟩
            | power l k hl hk hm hd =>
              have HR := Lib.hid (HA.out.power (l := l + 1) (k := tm) hd (by omega) (by omega) (by omega) (txt_pos HS.out (by omega)) hk hm)
              have HS2 : Hid (stI ((st ++ [(i + 1, t')]) ++ [(l + 1, tm)]) = (si ++ [(i + 1, (t' : Int))]) ++ [(l + 1, (tm : Int))]) := Lib.hid (by rw [stI_snoc, HSI2.out])
              clear hd
              go_wp2_with (first | refine sL ?_ | (refine sS ?_; clear H; intro _ H) | (refine sA ?_; clear H; intro _ _ H) | refine sF ?_ | ((with_reducible refine isStore ?_); refine AtStore.rowAk (enc := encQ) (k := 2) (n := sl + 1) (c := c3) (i := sl) (j := 1) H rfl rfl rfl rfl rfl rfl pk encQ_len HLAST.out (by omega) rfl (i + 1, (t' : Int)) rfl ?_; clear H; intro _ H; rw [HSET.out] at H; simp only [Act.put, puA, puB, puC]) | ((with_reducible refine isLoad ?_); refine AtLoad.cel rfl rfl rfl rfl (rowsA_cell (H.get (A := rowsA encQ 94 2 (.slice (some ⟨g3, 0, none⟩) (sl + 1) c3) (si ++ [(i + 1, (t' : Int))])) pk) encQ_len (HLV.out (t' : Int)) (j := 0) (u := .int .i64 ((i : Int) + 1)) rfl) ?_; simp only [Act.put, puA, puB, puC]) | ((with_reducible refine isLoad ?_); refine AtLoad.cel rfl rfl rfl rfl (rowsA_cell (H.get (A := rowsA encQ 94 2 (.slice (some ⟨g3, 0, none⟩) (sl + 1) c3) (si ++ [(i + 1, (t' : Int))])) pk) encQ_len (HLV.out (t' : Int)) (j := 1) rfl) ?_; simp only [Act.put, puA, puB, puC]) | ((with_reducible refine isLoad ?_); refine AtLoad.cel rfl rfl rfl rfl (rowsA_cell (H.get (A := rowsA encQ 94 2 (.slice (some ⟨g3, 0, none⟩) (sl + 1) c3) (si ++ [(i + 1, (tt : Int))])) pk) encQ_len HLAST.out (j := 1) rfl) ?_; simp only [Act.put, puA, puB, puC]) | (go_at_call 44; with_reducible refine TQ.use (HST.out) HT.out H pk ts ?_; clear H; intro _ H) | (go_at_call 45; with_reducible refine TQ.use (HRU.out) HT.out H pk ts ?_; clear H; intro _ H) | ((with_reducible refine isSlice ?_); refine AtSlice.one H rfl rfl rfl rfl rfl rfl rfl rfl rfl ?_; clear H; intro b8 _ H; simp only [Act.put, puA, puB, puC]) | ((with_reducible refine isAppend ?_); refine AtAppend.go (enc := encQ) H rfl rfl rfl rfl rfl (by decide) (by decide) rfl pk rfl (H.at pk) [(l + 1, (tm : Int))] rfl (by simp [flatG, encQ]) encQ_len encQ_one (by simp; omega) ?_; clear H; intro ad9 cp9 _ H; simp only [Act.put, puA, puB, puC]))
              simp only [List.length_append, List.length_cons, List.length_nil, HSL.out, Nat.zero_add] at H
              rw [← HS2.out] at H
              have hl2 := H.five (A := tabA T2) (B := stoA s lv m S) (C := blk b1 (.cells #[.pointer (some ⟨p, 0, none⟩)] 31)) (D := blk b2 (.cells #[.int .i64 (id : Nat)] 32)) (E := rowsA encQ 94 2 (.slice ad9 ((sl + 1) + 1) cp9) (stI ((st ++ [(i + 1, t')]) ++ [(l + 1, tm)]))) pk pk pk pk pk
              obtain ⟨hit2, ht2⟩ := HIT.out.of hl2
              have HIT2 := Lib.hid hit2
              have HJ2 := Lib.hid (HJ.out _ _ _ HJ0.out ht2)
              clear hit2 ht2 hl2 H
              go_roundg (stkM S ((st ++ [(i + 1, t')]) ++ [(l + 1, tm)]))
              case measure => rw [HK0.out]; exact HR.out.2
              case rel => exact ⟨T2, q2, at_ + pr, (st ++ [(i + 1, t')]) ++ [(l + 1, tm)], pre, rfl, by go_num, HR.out.1, rfl, HT.out, HIT2.out, HJ2.out⟩
        · have hce : cc = tt := by omega
          have HN := Lib.hid (hnone hce)
          have i9 : (tt : Int) - ((cc : Int) + 1) = -1 := by omega
          have hwx : 0 < tt * wE S (i + 1) := Nat.mul_pos (by omega) hwp
          have HW := Lib.hid hwx
          clear hnone hyes HITT hwp hwx hcase HRU hce hct
          go_wp2_with (first | refine sL ?_ | (refine sS ?_; clear H; intro _ H) | (refine sA ?_; clear H; intro _ _ H) | refine sF ?_ | ((with_reducible refine isStore ?_); refine AtStore.rowAk (enc := encQ) (k := 2) (n := sl + 1) (c := c3) (i := sl) (j := 1) H rfl rfl rfl rfl rfl rfl pk encQ_len HLAST.out (by omega) rfl (i + 1, (-1 : Int)) rfl ?_; clear H; intro _ H; rw [HSET.out] at H; simp only [Act.put, puA, puB, puC]) | ((with_reducible refine isLoad ?_); refine AtLoad.cel rfl rfl rfl rfl (rowsA_cell (H.get (A := rowsA encQ 94 2 (.slice (some ⟨g3, 0, none⟩) (sl + 1) c3) (si ++ [(i + 1, (-1 : Int))])) pk) encQ_len (HLV.out (-1 : Int)) (j := 0) (u := .int .i64 ((i : Int) + 1)) rfl) ?_; simp only [Act.put, puA, puB, puC]) | ((with_reducible refine isLoad ?_); refine AtLoad.cel rfl rfl rfl rfl (rowsA_cell (H.get (A := rowsA encQ 94 2 (.slice (some ⟨g3, 0, none⟩) (sl + 1) c3) (si ++ [(i + 1, (-1 : Int))])) pk) encQ_len (HLV.out (-1 : Int)) (j := 1) rfl) ?_; simp only [Act.put, puA, puB, puC]) | ((with_reducible refine isLoad ?_); refine AtLoad.cel rfl rfl rfl rfl (rowsA_cell (H.get (A := rowsA encQ 94 2 (.slice (some ⟨g3, 0, none⟩) (sl + 1) c3) (si ++ [(i + 1, (tt : Int))])) pk) encQ_len HLAST.out (j := 1) rfl) ?_; simp only [Act.put, puA, puB, puC]) | ((with_reducible refine isCut ?_); refine AtCut.any rfl rfl rfl rfl rfl rfl (.inr ⟨_, rfl⟩) (by omega) ?_; replace H := (H.pick (A := rowsA encQ 94 2 (.slice (some ⟨g3, 0, none⟩) (sl + 1) c3) (si ++ [(i + 1, (-1 : Int))])) pk).cut encQ_len HSL.out; simp only [Act.put, puA, puB, puC]))
          have hl2 := H.five (A := tabA T2) (B := stoA s lv m S) (C := blk b1 (.cells #[.pointer (some ⟨p, 0, none⟩)] 31)) (D := blk b2 (.cells #[.int .i64 (id : Nat)] 32)) (E := rowsA encQ 94 2 (.slice (some ⟨g3, 0, none⟩) sl c3) si) pk pk pk pk pk
          obtain ⟨hit2, ht2⟩ := HIT.out.of hl2
          rw [← HSI.out] at hit2
          have HIT2 := Lib.hid hit2
          have HJ2 := Lib.hid (HJ.out _ _ _ HJ0.out ht2)
          clear hit2 ht2 hl2
          go_roundg (stkM S st)
          case measure => rw [HK0.out, ← HN.out.2]; have := HW.out; omega
          case rel => exact ⟨T2, q2, at_ + pr, st, pre, rfl, by go_num, HN.out.1, rfl, HT.out, HIT2.out, HJ2.out⟩
end Go.Proofs.Ytijnhpaafhcndaa
end
section
namespace Go.Proofs.Ytijnhpaafhcndaa
set_option linter.unusedSimpArgs false
set_option linter.unusedVariables false
def lE (pre : List (Nat × Nat)) : Nat := (pre.getLast?.map Prod.fst).getD 0
theorem lE_snoc (pre : List (Nat × Nat)) (x : Nat × Nat) : lE (pre ++ [x]) = x.1 := by simp [lE]
theorem lE_cons (p x : Nat × Nat) (pre : List (Nat × Nat)) : lE (p :: x :: pre) = lE (x :: pre) := by simp [lE]
theorem ends_cut : ∀ (hs : List Nat) (s : Nat) (pre rest : List (Nat × Nat)), pre ++ rest = ends hs s → ∃ a b, hs = a ++ b ∧ ends b (s + a.length) = rest ∧ (pre = [] → a = []) ∧ (pre ≠ [] → lE pre = s + a.length)
  | [], s, pre, rest, h => by
    have h : pre ++ rest = [] := h
    rw [List.append_eq_nil_iff] at h
    obtain ⟨rfl, rfl⟩ := h
    exact ⟨[], [], rfl, rfl, fun _ => rfl, fun h => absurd rfl h⟩
  | x :: r, s, pre, rest, h => by
    rw [ends] at h
    cases pre with
    | nil => refine ⟨[], x :: r, rfl, ?_, fun _ => rfl, fun h => absurd rfl h⟩
             rw [ends]; exact h.symm
    | cons p pre =>
      by_cases hx : 0 < x
      · rw [if_pos hx, List.cons_append] at h
        obtain ⟨h1, h2⟩ := List.cons.inj h
        obtain ⟨a, b, e1, e2, e3, e4⟩ := ends_cut r (s + 1) pre rest h2
        refine ⟨x :: a, b, by rw [e1]; rfl, by rw [List.length_cons, ← e2]; congr 1; omega, fun h => by simp at h, fun _ => ?_⟩
        cases pre with
        | nil => rw [e3 rfl, h1]; rfl
        | cons q pre => rw [lE_cons, e4 (by simp), List.length_cons]; omega
      · rw [if_neg hx] at h
        obtain ⟨a, b, e1, e2, e3, e4⟩ := ends_cut r (s + 1) (p :: pre) rest h
        refine ⟨x :: a, b, by rw [e1]; rfl, by rw [List.length_cons, ← e2]; congr 1; omega, fun h => by simp at h, fun _ => ?_⟩
        rw [e4 (by simp), List.length_cons]; omega
theorem ends_cut0 {hs : List Nat} {pre rest : List (Nat × Nat)} (h : pre ++ rest = ends hs 0) : ∃ a b, hs = a ++ b ∧ ends b a.length = rest ∧ lE pre = a.length := by
  obtain ⟨a, b, e1, e2, e3, e4⟩ := ends_cut hs 0 pre rest h
  refine ⟨a, b, e1, by rw [← e2, Nat.zero_add], ?_⟩
  by_cases hp : pre = []
  · rw [e3 hp, hp]; rfl
  · rw [e4 hp, Nat.zero_add]
theorem ends_none : ∀ (b : List Nat) (s : Nat), ends b s = [] → hitF b = 0
  | [], s, _ => rfl
  | x :: r, s, h => by
    rw [ends] at h
    by_cases hx : 0 < x
    · rw [if_pos hx] at h; simp at h
    · rw [if_neg hx] at h
      have := ends_none r _ h
      simp [hitF, hx, this]
theorem ends_first : ∀ (b : List Nat) (s : Nat) (x : Nat × Nat) (rest : List (Nat × Nat)), ends b s = x :: rest → 0 < hitF b ∧ x.1 = s + hitF b ∧ b[hitF b - 1]? = some x.2
  | [], s, x, rest, h => by simp [ends] at h
  | y :: r, s, x, rest, h => by
    rw [ends] at h
    by_cases hy : 0 < y
    · rw [if_pos hy] at h
      obtain ⟨h1, h2⟩ := List.cons.inj h
      have hf : hitF (y :: r) = 1 := by simp [hitF, hy]
      rw [hf, ← h1]
      exact ⟨by omega, rfl, rfl⟩
    · rw [if_neg hy] at h
      obtain ⟨k1, k2, k3⟩ := ends_first r _ x rest h
      have hf : hitF (y :: r) = hitF r + 1 := by simp [hitF, hy]; omega
      rw [hf]
      refine ⟨by omega, by omega, ?_⟩
      obtain ⟨n, hn⟩ : ∃ n, hitF r = n + 1 := ⟨hitF r - 1, by omega⟩
      rw [hn] at k3 ⊢
      simpa using k3
theorem refV_next {hs : List Nat} {pre : List (Nat × Nat)} {x : Nat × Nat} (h : pre ++ [x] <+: ends hs 0) : refV hs (lE pre) = x.1 ∧ 0 < x.1 ∧ hs[x.1 - 1]? = some x.2 ∧ lE pre ≤ hs.length ∧ x.1 ≤ hs.length := by
  obtain ⟨r, hr⟩ := h
  rw [List.append_assoc] at hr
  obtain ⟨a, b, rfl, e2, e3⟩ := ends_cut0 hr
  obtain ⟨k1, k2, k3⟩ := ends_first b _ x r e2
  have hb := hitF_le b
  rw [e3, refV, List.drop_left, if_neg (by omega), k2]
  refine ⟨rfl, by omega, ?_, by simp, by rw [List.length_append]; omega⟩
  rw [List.getElem?_append_right (by omega), ← k3]
  congr 1; omega
theorem refV_end (hs : List Nat) : refV hs (lE (ends hs 0)) = 0 ∧ lE (ends hs 0) ≤ hs.length := by
  obtain ⟨a, b, h1, e2, e3⟩ := ends_cut0 (hs := hs) (pre := ends hs 0) (rest := []) (by simp)
  have := ends_none b _ e2
  subst h1
  rw [e3, refV, List.drop_left, if_pos this]
  exact ⟨rfl, by simp⟩
end Go.Proofs.Ytijnhpaafhcndaa
end
section
namespace Go.Proofs.Ytijnhpaafhcndaa
open Go.RowKit Go.Maps
attribute [local go_sem] InGr
set_option maxHeartbeats 8000000
set_option maxRecDepth 100000
set_option linter.unusedSimpArgs false
set_option linter.unusedVariables false
end Go.Proofs.Ytijnhpaafhcndaa
end
section
namespace Go.Proofs.Ytijnhpaafhcndaa
open Go.RowKit Go.Maps
attribute [local go_sem] InGr Oper.semAt_some
set_option maxHeartbeats 8000000
set_option maxRecDepth 100000
set_option linter.unusedSimpArgs false
set_option linter.unusedVariables false
theorem results_bool_at {fn : Func} {p : Tmp} (h : fn.results = #[.cell p 4]) (tmps : Array Value) (w : World) (g : Nat) (b : Bool) (hp : tmps.getD p undef = .pointer (some ⟨g, 0, none⟩)) (hg : w.heap[g]? = some (.cells #[.bool b] 4)) :
    (results fn tmps).run Try.prog w = .ok (.bool b) w := by
  have hp' : tmps[p]?.getD undef = .pointer (some ⟨g, 0, none⟩) := by simpa using hp
  have hc : w.cell? ⟨g, 0, none⟩ = some (.bool b) := cell_of_row _ g 0 #[.bool b] 4 (0, 0) hg
  simp [results, h, hp', asAddr, go_sem, hc, Try.underlying4]
theorem bool_end0 {fn : Func} {p : Tmp} {tmps : Array Value} {w0 w : World} {M : List Nat} {L R : List As} {g : Nat} {b : Bool} {post : Ending → World → Prop} (hr : fn.results = #[.cell p 4]) (H : St w0 M L w) (p1 : Pick L (blk g (.cells #[.bool b] 4)) R) (hp : tmps.getD p undef = .pointer (some ⟨g, 0, none⟩)) (h : St w0 M [] w → post (.returned (.bool b)) w) : bodyPostM Fence.wide 3 Try.prog fn post .ret { tmps, defers := [] } w :=
  ⟨_, results_bool_at hr tmps w g b hp (H.at p1), h H.nix⟩
theorem bool_end1 {fn : Func} {p : Tmp} {tmps : Array Value} {w0 w : World} {L R R' : List As} {g D : Nat} {b : Bool} {post : Ending → World → Prop} (hr : fn.results = #[.cell p 4]) (H : St w0 [] L w) (p1 : Pick L (blk g (.cells #[.bool b] 4)) R) (p2 : Pick R (blk D (.deferred (some []))) R') (hp : tmps.getD p undef = .pointer (some ⟨g, 0, none⟩)) (h : ∀ w', St w0 [] [] w' → post (.returned (.bool b)) w') : bodyPostM Fence.wide 3 Try.prog fn post .ret { tmps, defers := [{ target := .collected D, args := #[] }] } w := by
  have H2 := H.pick2 p1 p2
  have hD : w.heap[D]? = some (.deferred (some [])) := H2.at (.there .here)
  have hg : w.heap[g]? = some (.cells #[.bool b] 4) := H2.at .here
  have hne : g ≠ D := fun e => by rw [e, hD] at hg; simp at hg
  have H3 : St w0 [] (blk D (.deferred none) :: blk g (.cells #[.bool b] 4) :: R') (w.putObj D (.deferred none)) := by
    refine St.turn (H2.perm (List.Perm.swap _ _ _)) (fun b hb => World.putObj_heap_other fun e => hb (by subst e; simp [blk_fp])) rfl rfl rfl (by simp) ?_ (by rw [blk_fp, blk_fp])
    rw [blk_ho]
    exact World.putObj_heap_same (lt_of_block hD)
  exact ⟨by simp, .inl ⟨_, _, rfl, run_takeDeferred hD, ⟨_, results_bool_at hr tmps _ g b hp (H3.at (.there .here)), h _ H3.nix⟩⟩⟩
inductive Picks : List As → List As → Prop
  | nil {L : List As} : Picks L []
  | cons {L R L' : List As} {A : As} : Pick L A R → Picks R L' → Picks L (A :: L')
theorem Picks.perm {L L' : List As} (h : Picks L L') : ∃ R, L.Perm (L' ++ R) := by
  induction h with
  | nil => exact ⟨_, List.Perm.refl _⟩
  | cons h1 _ ih => obtain ⟨R, hR⟩ := ih
                    exact ⟨R, h1.perm.trans (hR.cons _)⟩
theorem St.picks {w0 w : World} {M : List Nat} {L L' : List As} (h : St w0 M L w) (hp : Picks L L') : St w0 M L' w := by
  obtain ⟨R, hR⟩ := hp.perm
  have k := h.perm hR
  exact ⟨k.os, k.tape, k.output, k.size, k.keep, fun X hX => k.ho X (List.mem_append_left _ hX), fun X hX => k.own X (List.mem_append_left _ hX), k.dis.sublist (List.sublist_append_left _ _)⟩
theorem St.parted {w0 w : World} {L1 L2 : List As} (h : St w0 [] (L1 ++ L2) w) : (∀ b ∈ fps L2, w0.heap.size ≤ b ∧ b < w.heap.size) ∧ (∀ b ∈ fps L1, w0.heap.size ≤ b ∧ b < w.heap.size ∧ b ∉ fps L2) ∧ St w (fps L2) L2 w ∧ St w0 [] L1 w := by
  have own : ∀ A ∈ L1 ++ L2, ∀ b ∈ A.fp, w0.heap.size ≤ b ∧ b < w.heap.size := fun A hA b hb => by
    refine ⟨?_, h.fpLt hA b hb⟩
    rcases h.own A hA b hb with h | h
    · exact h
    · simp at h
  have hd := List.pairwise_append.1 h.dis
  refine ⟨fun b hb => ?_, fun b hb => ?_, ?_, ?_⟩
  · obtain ⟨A, hA, hb⟩ := List.mem_flatMap.1 hb
    exact own A (List.mem_append_right _ hA) b hb
  · obtain ⟨A, hA, hb⟩ := List.mem_flatMap.1 hb
    obtain ⟨h1, h2⟩ := own A (List.mem_append_left _ hA) b hb
    refine ⟨h1, h2, fun hx => ?_⟩
    obtain ⟨A', hA', hb'⟩ := List.mem_flatMap.1 hx
    exact hd.2.2 A hA A' hA' b hb hb'
  · exact ⟨rfl, rfl, rfl, Nat.le_refl _, fun _ _ _ => rfl, fun A hA => h.ho A (List.mem_append_right _ hA), fun A hA b hb => .inr (List.mem_flatMap.2 ⟨A, hA, hb⟩), hd.2.1⟩
  · exact ⟨h.os, h.tape, h.output, h.size, h.keep, fun A hA => h.ho A (List.mem_append_left _ hA), fun A hA => h.own A (List.mem_append_left _ hA), hd.1⟩
theorem St.add {w0 w : World} {L : List As} {g : Nat} {o : Obj} (h : St w0 [] L w) (hg : w.heap[g]? = some o) (h0 : w0.heap.size ≤ g) (hd : ∀ b ∈ fps L, b ≠ g) : St w0 [] (blk g o :: L) w := by
  refine ⟨h.os, h.tape, h.output, h.size, h.keep, fun A hA => ?_, fun A hA b hb => ?_, List.pairwise_cons.2 ⟨fun A hA b hb hb' => ?_, h.dis⟩⟩
  · rcases List.mem_cons.1 hA with rfl | hA
    · rw [blk_ho]; exact hg
    · exact h.ho A hA
  · rcases List.mem_cons.1 hA with rfl | hA
    · have : b = g := by simpa [blk_fp] using hb
      exact .inl (by omega)
    · exact h.own A hA b hb
  · have : b = g := by simpa [blk_fp] using hb
    exact hd b (List.mem_flatMap.2 ⟨A, hA, hb'⟩) this
theorem St.cellPut {w0 w : World} {M : List Nat} {L L' : List As} {g : Nat} {u v : Value} {t : TypeId} (h : St w0 M L w) (hp : Upd L (blk g (.cells #[u] t)) (blk g (.cells #[v] t)) L') : St w0 M L' (w.setCell ⟨g, 0, none⟩ v) := by
  obtain ⟨R, h1, h2⟩ := hp.pick
  have h := h.perm h1
  have hg : w.heap[g]? = some (.cells #[u] t) := h.at .here
  refine (St.turn h (A' := blk g (.cells #[v] t)) (fun b hb => heap_setCell_other _ _ _ _ fun e => hb (by rw [blk_fp]; simp_all)) rfl rfl rfl (by simp) ?_ (by rw [blk_fp, blk_fp])).perm h2.symm
  rw [blk_ho]
  exact heap_setCell_same _ _ _ _ _ _ hg
theorem Turn.setCell (M : List Nat) {B g : Nat} (W : World) (v : Value) (h : g ∈ M ∨ B ≤ g) : Turn M B W (W.setCell ⟨g, 0, none⟩ v) := by
  refine ⟨rfl, rfl, rfl, by simp, fun b hb hm => heap_setCell_other _ _ _ _ ?_⟩
  intro e
  have e : b = g := e
  rw [e] at hb hm
  rcases h with h | h
  · exact hm h
  · omega
theorem ends_len : ∀ (hs : List Nat) (s : Nat), (ends hs s).length ≤ hs.length
  | [], _ => Nat.le_refl _
  | x :: r, s => by
    have := ends_len r (s + 1)
    rw [ends]
    split <;> simp only [List.length_cons] <;> omega
abbrev AIL (f : Int) (sl : Value) (hs : List Nat) (bm br bv bk ba : Nat) (at_ k : Nat) (r : Bool) : List As := [blk ba (.cells #[.int .i64 (at_ : Nat)] 3), blk bk (.cells #[.int .i64 (k : Nat)] 3), blk bv (.cells #[sl] 22), rowsA encI 3 1 sl hs, blk br (.cells #[.bool r] 4), blk bm (.cells #[.int .i64 f] 3)]
def AI (w0 : World) (f : Int) (sl : Value) (hs : List Nat) (bm br bv bk ba : Nat) (pre : List (Nat × Nat)) (W : World) : Prop := (∃ r, St w0 [] (AIL f sl hs bm br bv bk ba (lE pre) pre.length r) W) ∧ (f ≤ 0 ∨ (pre.length : Int) < f)
def AX (w0 : World) (br : Nat) (c : Code) (pre : List (Nat × Nat)) (W : World) : Prop := c = .ret ∧ St w0 [] [blk br (.cells #[.bool true] 4)] W
theorem AI_abd {w0 : World} {f : Int} {sl : Value} {hs : List Nat} {bm br bv bk ba B : Nat} {M : List Nat} (h0 : w0.heap.size ≤ B) (hM : ∀ b ∈ M, w0.heap.size ≤ b) (hL : ∀ b ∈ fps (AIL f sl hs bm br bv bk ba 0 0 false), b < B ∧ b ∉ M) : Abd M B (AI w0 f sl hs bm br bv bk ba) := by
  rintro pre W W' ⟨⟨r, h⟩, h2⟩ ht
  refine ⟨⟨r, h.turned ht h0 hM fun A hA b hb => hL b ?_⟩, h2⟩
  have : b ∈ fps (AIL f sl hs bm br bv bk ba (lE pre) pre.length r) := List.mem_flatMap.2 ⟨A, hA, hb⟩
  simpa [fps, blk_fp, rowsA_fp'] using this
theorem AX_abd {w0 : World} {br B : Nat} {M : List Nat} (c : Code) (h0 : w0.heap.size ≤ B) (hM : ∀ b ∈ M, w0.heap.size ≤ b) (hL : br < B ∧ br ∉ M) : Abd M B (AX w0 br c) := by
  rintro pre W W' ⟨h1, h⟩ ht
  refine ⟨h1, h.turned ht h0 hM fun A hA b hb => ?_⟩
  have : A = blk br (.cells #[.bool true] 4) := by simpa using hA
  subst this
  have : b = br := by simpa [blk_fp] using hb
  subst this
  exact hL
theorem all_walk {P : PoolT} {cv nv av hv lv : Value} {rvs : List Value} {R : Raw} {ms : List Mk} {N f : Int} (h : RawAt P cv nv av hv rvs R) (hms : RowIn P mkL 5 lv ms) (hf : ∀ m ∈ ms, m.Fits) (hs : fits64 R.start) (hN : fits64 N) (h1 : fits64 f) (w : World) (hp : (poolA P).ho w) :
    Calls Try.prog 5 #[.agg #[.int .i64 R.start, cv, nv, av, hv, lv, .int .i64 N], .int .i64 f] w fun e w' => e = .returned (.bool true) ∧ St w [] [] w' := by
  have H := St.nil w []
  have HK := Ks.one hp
  unfold fits64 at hs h1
  have HG := Lib.hid (fun w hp => good_c h hms hs.1 hs.2 (N := N) w hp)
  have HB : Hid (∀ c, R.Snd c → ms.length ≤ 100 → ∀ w, (poolA P).ho w → _) := Lib.hid (fun c hR hl w hp => begun_c h hR hms hf hl hN w hp)
  have HPL : Hid (∀ c, R.Snd c → ms.length ≤ 100 → ∀ w, (poolA P).ho w → Calls Try.prog 11 #[.agg #[.int .i64 R.start, cv, nv, av, hv, lv, .int .i64 N], .int .i64 (idOf ms N : Nat)] w (PlainPost ((stoOf ms).txt (idOf ms N)) (R.mc.hits R.mc.start ((stoOf ms).txt (idOf ms N))) w)) := Lib.hid (fun c hR hl w hp => plain_c h hR hms hf hl (idOf_le hf N).2.1 w hp)
  have HID := Lib.hid (idOf_le hf N)
  obtain ⟨a1, c1, rfl, hm1⟩ := h.cls.shape
  obtain ⟨a2, c2, rfl, hm2⟩ := h.next.shape
  obtain ⟨a3, c3, rfl, hm3⟩ := h.acc.shape
  obtain ⟨a4, c4, rfl, hm4⟩ := h.wts.shape
  obtain ⟨a5, c5, rfl, hm5⟩ := hms.shape
  clear h hms hf hs hN hp hm1 hm2 hm3 hm4 hm5
  refine (callsIn_wide (n := 3)).1 ?_
  refine callsIn_of_wp_marks Try.func5 rfl trivial ?_ rfl
  simp only [Try.ntmps5, List.size_toArray, List.length_cons, List.length_nil, Nat.reduceAdd, Nat.reduceSub, Array.replicate_succ, Array.replicate_zero, List.push_toArray, List.append_toArray, List.nil_append, List.cons_append]
  refine wpIn_wide.2 ?_
  go_wp2_with (first | refine sL ?_ | (refine sS ?_; clear H; intro _ H) | (refine sB ?_; clear H; intro _ _ H) | (refine sA ?_; clear H; intro _ _ H) | refine sF ?_)
  with_reducible refine Calls.mono (HG.out _ (H.known HK pk)) ?_
  rintro e wc ⟨b, rfl, hgood, hb⟩
  replace H := H.grew hb.below
  clear hb
  cases b with
  | false =>
    clear hgood
    go_wp2_with (first | refine sL ?_ | (refine sS ?_; clear H; intro _ H) | (refine sB ?_; clear H; intro _ _ H) | (refine sA ?_; clear H; intro _ _ H) | refine sF ?_)
    exact bool_end0 rfl H pk rfl fun h => ⟨rfl, h⟩
  | true =>
    obtain ⟨hl, c, hR⟩ := hgood rfl
    have HR := Lib.hid hR
    have HL := Lib.hid hl
    clear hgood hl hR
    go_wp2_with (first | refine sL ?_ | (refine sS ?_; clear H; intro _ H) | (refine sB ?_; clear H; intro _ _ H) | (refine sA ?_; clear H; intro _ _ H) | refine sF ?_)
    with_reducible refine Calls.mono (HB.out c HR.out HL.out _ (H.known HK pk)) ?_
    rintro e wc ⟨T, mm, lv1, rfl, hmc, hbk, hT, hb⟩
    replace H := H.call0 hb
    clear hb
    simp only [List.cons_append, List.nil_append] at H
    go_wp2_with (first | refine sL ?_ | (refine sS ?_; clear H; intro _ H) | (refine sB ?_; clear H; intro _ _ H) | (refine sA ?_; clear H; intro _ _ H) | refine sF ?_)
    with_reducible refine Calls.mono (HPL.out c HR.out HL.out _ (H.known HK pk)) ?_
    obtain ⟨hok, hid, _, _⟩ := HID.out
    have hmax := txt_max hok hid
    generalize hii : idOf ms N = id at *
    generalize hSS : stoOf ms = S at *
    rintro e wc (⟨hl3, vh, rfl, hb⟩ | ⟨hl3, rfl, hb⟩)
    · replace H := H.call0 hb
      clear hb
      simp only [List.cons_append, List.nil_append] at H
      have hsl : (R.mc.hits R.mc.start (S.txt id)).length = (S.txt id).length := Mc.hits_len _ _
      have hsb := HR.out.ok.hits_le HR.out.ok.start (fun b hb => Sto.txt_lt hok hid b hb)
      have HT : Hid (TK S T.p T.s R.mc false T) := Lib.hid ⟨hT, rfl, rfl, hmc, hbk⟩
      have HOK := Lib.hid (And.intro hok hid)
      generalize hhs : R.mc.hits R.mc.start (S.txt id) = hs at *
      obtain ⟨ah, ch, hvh, _⟩ := rowsA_shape (H.get (A := rowsA encI 3 1 vh hs) pk)
      rw [hsl] at hvh
      subst hvh
      have HSB := Lib.hid hsb
      have HSL := Lib.hid hsl
      have HHS := Lib.hid hhs
      clear HB HG HID HPL hok hid hii hSS hmc hbk hT hhs hsb hsl
      go_wp2_with (first | refine sL ?_ | (refine sS ?_; clear H; intro _ H) | (refine sB ?_; clear H; intro _ _ H) | (refine sA ?_; clear H; intro _ _ H) | refine sF ?_)
      rename_i b0 _ bm _ br _ _ _ _ _ _ bv _ _ bk _ ba _ _ _ _ _ _ _ _ _
      with_reducible refine Calls.mono (All_c T.p id _) ?_
      rintro e wd ⟨b5, b6, rfl, hb⟩
      replace H := H.call0 hb
      clear hb
      simp only [List.cons_append, List.nil_append] at H
      go_wp2_with (first | refine sL ?_ | (refine sS ?_; clear H; intro _ H) | (refine sB ?_; clear H; intro _ _ H) | (refine sA ?_; clear H; intro _ _ H) | refine sF ?_)
      have HP : St w [] [blk ba (.cells #[.int .i64 0] 3), blk bk (.cells #[.int .i64 0] 3), blk bv (.cells #[.slice ah (S.txt id).length ch] 22), rowsA encI 3 1 (.slice ah (S.txt id).length ch) hs, blk br (.cells #[.bool false] 4), blk bm (.cells #[.int .i64 f] 3), tabA T, stoA T.s lv1 mm S, blk b5 (.cells #[.pointer (some ⟨T.p, 0, none⟩)] 31), blk b6 (.cells #[.int .i64 (id : Nat)] 32)] wd := H.picks (.cons pk (.cons pk (.cons pk (.cons pk (.cons pk (.cons pk (.cons pk (.cons pk (.cons pk (.cons pk .nil))))))))))
      have HP : St w [] (AIL f (.slice ah (S.txt id).length ch) hs bm br bv bk ba 0 0 false ++ itL T T.s lv1 mm S b5 b6 T.p id) wd := HP
      obtain ⟨hM, hL1, hS2, hS1⟩ := HP.parted
      have hw0 : w.heap.size ≤ wd.heap.size := HP.size
      have hF : ∀ b ∈ [bk, ba, br], b ∈ fps (AIL f (.slice ah (S.txt id).length ch) hs bm br bv bk ba 0 0 false) := fun b hb => by
        simp only [List.mem_cons, List.not_mem_nil, or_false] at hb
        rcases hb with rfl | rfl | rfl <;> simp [fps, blk_fp]
      have hMB : ∀ b ∈ [bk, ba, br], b < wd.heap.size := fun b hb => (hL1 b (hF b hb)).2.1
      have hseq := All1_seq (lv := lv1) (m := mm) (p := T.p) (s := T.s) (mc := R.mc) (id := id) (b1 := b5) (b2 := b6) (T0 := T) (M := fps (itL T T.s lv1 mm S b5 b6 T.p id)) (MB := [bk, ba, br]) (w := wd) (n := 2) HOK.out.1 HOK.out.2 HT.out (fun b hb => hb) (fun b hb hx => (hL1 b (hF b hx)).2.2 hb) (fun b hb => (hM b hb).2) hMB hS2
      rw [HHS.out] at hseq
      clear H HP HHS HT
      refine (wpIn_wide (n := 3)).1 ?_
      refine wpIn_rangeFunc_T (F := Fence.wide) (n := 3) rfl (by omega) (gf := 42) (lb := #[.pointer (some ⟨b5, 0, none⟩), .pointer (some ⟨b6, 0, none⟩)]) rfl trivial (enters_of Try.func42 (by kernel_rfl) rfl) hseq (fun b hb => (hM b hb).2) hMB (fun _ => rfl)
        (AI w f (.slice ah (S.txt id).length ch) hs bm br bv bk ba) (AX w br) (AI_abd hw0 (fun b hb => (hM b hb).1) fun b hb => (hL1 b hb).2) (fun c => AX_abd c hw0 (fun b hb => (hM b hb).1) (hL1 br (hF br (by simp))).2) ⟨⟨false, hS1⟩, ?hmo0⟩
        (fun x => { tmps := #[.agg #[.int .i64 R.start, .slice a1 R.cls.length c1, .slice a2 rvs.length c2, .slice a3 R.acc.length c3, .slice a4 R.wts.length c4, .slice a5 ms.length c5, .int .i64 N], .int .i64 f, .pointer (some ⟨b0, 0, none⟩), .pointer (some ⟨bm, 0, none⟩), .pointer (some ⟨br, 0, none⟩), .pointer (some ⟨T.p, 0, none⟩), .int .i64 (id : Nat), .int .i64 ((S.txt id).length : Nat), .bool true, .pointer (some ⟨bv, 0, none⟩), .bool true, .pointer (some ⟨bk, 0, none⟩), .pointer (some ⟨ba, 0, none⟩), .int .i64 (x.1 : Nat), .int .i64 (x.2 : Nat), .agg #[.int .i64 R.start, .slice a1 R.cls.length c1, .slice a2 rvs.length c2, .slice a3 R.acc.length c3, .slice a4 R.wts.length c4, .slice a5 ms.length c5, .int .i64 N], .bool true, .bool false, .tuple #[.pointer (some ⟨T.p, 0, none⟩), .int .i64 (id : Nat), .int .i64 ((S.txt id).length : Nat), .bool true], .agg #[.int .i64 R.start, .slice a1 R.cls.length c1, .slice a2 rvs.length c2, .slice a3 R.acc.length c3, .slice a4 R.wts.length c4, .slice a5 ms.length c5, .int .i64 N], .tuple #[.pointer (some ⟨T.p, 0, none⟩), .int .i64 (id : Nat), .int .i64 ((S.txt id).length : Nat), .bool true], .pointer (some ⟨T.p, 0, none⟩), .int .i64 (id : Nat), .int .i64 ((S.txt id).length : Nat), .bool true, .bool true, .bool false, .tuple #[.slice ah (S.txt id).length ch, .bool true], .agg #[.int .i64 R.start, .slice a1 R.cls.length c1, .slice a2 rvs.length c2, .slice a3 R.acc.length c3, .slice a4 R.wts.length c4, .slice a5 ms.length c5, .int .i64 N], .int .i64 (id : Nat), .tuple #[.slice ah (S.txt id).length ch, .bool true], .slice ah (S.txt id).length ch, .bool true, .bool true, .bool false, .pointer (some ⟨T.p, 0, none⟩), .int .i64 (id : Nat), .func (.func 42) #[] #[.pointer (some ⟨b5, 0, none⟩), .pointer (some ⟨b6, 0, none⟩)], .int .i64 (x.1 : Nat), .int .i64 (x.2 : Nat), undef, undef, undef, undef, undef, undef, undef, undef, undef, undef, undef, undef, undef, undef, undef, undef, undef, undef, undef, undef, undef, undef, undef, undef, undef, undef, undef, undef], defers := [] }) ?assign ?body ?done ?stop
      case hmo0 =>
        show f ≤ 0 ∨ ((0 : Nat) : Int) < f
        omega
      case assign =>
        intro l x W K hK
        gi_wp2
        exact hK
      case body =>
        rintro l pre ⟨x0, x1⟩ W hlen ⟨⟨r, hH⟩, hmo⟩ hok
        obtain ⟨hx1, hx2, hx3, hx4, hx5⟩ := refV_next hok
        have H := hH
        simp only [AIL] at H
        have hle : lE (pre ++ [(x0, x1)]) = x0 := lE_snoc pre (x0, x1)
        have hlp : (pre ++ [(x0, x1)]).length = pre.length + 1 := by simp
        have hpl : pre.length + 1 ≤ 300 := by
          have h1 := hok.length_le
          have h2 := ends_len hs 0
          have h3 := HSL.out
          omega
        simp only at hx1 hx2 hx3 hx5
        obtain ⟨g, c', he, _⟩ := rowsA_cases (H.get (A := rowsA encI 3 1 (.slice ah (S.txt id).length ch) hs) pk) (by omega)
        simp only [Value.slice.injEq] at he
        obtain ⟨rfl, h8, h9⟩ := he
        clear h8 h9
        obtain ⟨y, rfl⟩ : ∃ y, x0 = y + 1 := ⟨x0 - 1, by omega⟩
        have hy : y < (S.txt id).length := by rw [← HSL.out]; omega
        have hyc : (((y + 1 : Nat)) : Int) = (y : Int) + 1 := by omega
        have HLE := Lib.hid hle
        have HLP := Lib.hid hlp
        have HX3 : Hid (hs[y]? = some x1) := Lib.hid (by simpa using hx3)
        have HNX := Lib.hid (hnext_c HSB.out (by rw [HSL.out]; exact hl3) hx4 W (H.get (A := rowsA encI 3 1 (.slice (some ⟨g, 0, none⟩) (S.txt id).length ch) hs) pk))
        rw [hx1, hyc] at HNX
        have HMO := Lib.hid hmo
        have d1 := cell_of_row _ bv 0 #[.slice (some ⟨g, 0, none⟩) (S.txt id).length ch] 22 (0, 0) (H.at pk)
        have d2 := cell_of_row _ ba 0 #[.int .i64 (lE pre : Nat)] 3 (0, 0) (H.at pk)
        simp only [hyc]
        generalize pre.length = k at *
        generalize lE pre = at0 at *
        clear hH hok hS2 hS1 hseq hM hL1 HP hle hlp hx3 hx1 hmo hyc
        gi_wp2_with fail
        refine ⟨trivial, ?_⟩
        refine (CallsIn.inRound l (callsIn_wide.2 HNX.out)).mono ?_
        rintro e wn ⟨rfl, hb⟩
        have HT : Hid (Turn [bk, ba, br] W.heap.size W wn) := Lib.hid ((Turn.of_st hb).widen (fun b hb _ => by simp at hb) (Nat.le_refl _))
        replace H := H.grew hb.below
        clear hb HNX d1 d2
        have e0 := cell_of_row wn ba 0 #[.int .i64 (at0 : Nat)] 3 (0, 0) (H.at pk)
        have f1 := frozen_of_row wn ba 0 _ _ (H.at (g := ba) (o := .cells #[.int .i64 (at0 : Nat)] 3) pk)
        have H2 := H.cellPut (g := ba) (u := .int .i64 (at0 : Nat)) (v := .int .i64 ((y : Int) + 1)) (t := 3) pk
        have HT2 := Lib.hid (HT.out.trans (Turn.setCell [bk, ba, br] (B := W.heap.size) (g := ba) wn (.int .i64 ((y : Int) + 1)) (.inl (by simp))))
        have e1 := cell_of_row _ ba 0 #[.int .i64 ((y : Int) + 1)] 3 (0, 0) (H2.at pk)
        have e2 := cell_of_row _ bv 0 #[.slice (some ⟨g, 0, none⟩) (S.txt id).length ch] 22 (0, 0) (H2.at pk)
        have e3 := cell_of_row _ bk 0 #[.int .i64 (k : Nat)] 3 (0, 0) (H2.at pk)
        have e5 := rowsA_cell (H2.get (A := rowsA encI 3 1 (.slice (some ⟨g, 0, none⟩) (S.txt id).length ch) hs) pk) encI_len HX3.out (j := 0) rfl
        have f3 := frozen_of_row _ bk 0 _ _ (H2.at (g := bk) (o := .cells #[.int .i64 (k : Nat)] 3) pk)
        have H3 := H2.cellPut (g := bk) (u := .int .i64 (k : Nat)) (v := .int .i64 ((k : Int) + 1)) (t := 3) pk
        have HT3 := Lib.hid (HT2.out.trans (Turn.setCell [bk, ba, br] (B := W.heap.size) (g := bk) (wn.setCell ⟨ba, 0, none⟩ (.int .i64 ((y : Int) + 1))) (.int .i64 ((k : Int) + 1)) (.inl (by simp))))
        have g1 := cell_of_row _ bk 0 #[.int .i64 ((k : Int) + 1)] 3 (0, 0) (H3.at pk)
        have g2 := cell_of_row _ bm 0 #[.int .i64 f] 3 (0, 0) (H3.at pk)
        have g4 := cell_of_row _ br 0 #[.bool r] 4 (0, 0) (H3.at pk)
        have g3 := frozen_of_row _ br 0 _ _ (H3.at (g := br) (o := .cells #[.bool r] 4) pk)
        have H4 := H3.cellPut (g := br) (u := .bool r) (v := .bool true) (t := 4) pk
        have HT4 := Lib.hid (HT3.out.trans (Turn.setCell [bk, ba, br] (B := W.heap.size) (g := br) _ (.bool true) (.inl (by simp))))
        simp only [Nat.mul_one, Nat.add_zero, List.getElem?_toArray, List.getElem?_cons_zero] at e0 e1 e2 e3 e5 g1 g2 g4
        have HH3 := Lib.hid H3
        have HH4 := Lib.hid H4
        clear H H2 H3 H4 HT HT2
        have hz : (((y : Int) + 1) == 0) = false := by rw [beq_eq_false_iff_ne]; omega
        by_cases hmk : (k : Int) + 1 = f
        · have b1 : (((k : Int) + 1) == f) = true := beq_iff_eq.2 hmk
          clear hmk
          gi_wp2_with fail
          exact ⟨HT4.out, rfl, HH4.out.only pk⟩
        · have b1 : (((k : Int) + 1) == f) = false := beq_eq_false_iff_ne.2 hmk
          have HMK : Hid (f ≤ 0 ∨ ((k : Int) + 1) < f) := Lib.hid (by have := HMO.out; omega)
          clear hmk
          gi_wp2_with fail
          exact ⟨HT3.out, ⟨r, by rw [HLE.out, HLP.out]; exact HH3.out⟩, by rw [HLP.out]; exact HMK.out⟩
      case done =>
        rintro D ys W hD rfl ⟨⟨r, hH⟩, hmo⟩ hK
        obtain ⟨hE1, hE2⟩ := refV_end hs
        have H := hH.add hK (by omega) (fun b hb => by have := (hL1 b (by simpa [fps, blk_fp, rowsA_fp'] using hb)).2.1; omega)
        clear hH hS2 hS1 hseq hM hL1 HP hF hMB hmo hK
        simp only [AIL] at H
        generalize lE (ends hs 0) = le at *
        generalize (ends hs 0).length = k0 at *
        have hE3 : ((refV hs le : Nat) : Int) = 0 := by rw [hE1]; rfl
        have HE3 := Lib.hid hE3
        have hE4 : hs.length ≤ 300 := by rw [HSL.out]; exact hl3
        have HE4 := Lib.hid (And.intro hE2 hE4)
        clear hE1 hE2 hE3 hE4
        go_wp2_with (first | refine sL ?_ | (refine sS ?_; clear H; intro _ H) | (refine sB ?_; clear H; intro _ _ H) | (refine sA ?_; clear H; intro _ _ H) | refine sF ?_)
        with_reducible refine Calls.mono (hnext_c HSB.out HE4.out.2 HE4.out.1 _ (H.get pk)) ?_
        rintro e we ⟨rfl, hb⟩
        replace H := H.grew hb.below
        clear hb
        rw [HE3.out]
        go_wp2_with (first | refine sL ?_ | (refine sS ?_; clear H; intro _ H) | (refine sB ?_; clear H; intro _ _ H) | (refine sA ?_; clear H; intro _ _ H) | refine sF ?_)
        exact bool_end1 rfl H pk pk rfl fun w' h => ⟨rfl, h⟩
      case stop =>
        rintro D c pre W hD hSp ⟨rfl, hH⟩ hK
        have H := hH.add hK (by omega) (fun b hb => by
          have : b = br := by simpa [fps, blk_fp] using hb
          subst this
          have := hMB b (by simp)
          omega)
        clear hH hS2 hS1 hseq hM hL1 HP hF hMB hK
        refine wpIn_wide.2 ?_
        go_wp2_with (first | refine sL ?_ | (refine sS ?_; clear H; intro _ H) | (refine sB ?_; clear H; intro _ _ H) | (refine sA ?_; clear H; intro _ _ H) | refine sF ?_)
        exact bool_end1 rfl H pk pk rfl fun w' h => ⟨rfl, h⟩
    · replace H := H.grew hb.below
      clear hb
      go_wp2_with (first | refine sL ?_ | (refine sS ?_; clear H; intro _ H) | (refine sB ?_; clear H; intro _ _ H) | (refine sA ?_; clear H; intro _ _ H) | refine sF ?_)
      exact bool_end0 rfl H pk rfl fun h => ⟨rfl, h⟩
end Go.Proofs.Ytijnhpaafhcndaa
end
section
namespace Go.Proofs.Ytijnhpaafhcndaa
open Go.ChangeShapes Go.WideShapes Go.ChangeAt Go.RowKit Go.Deep
set_option linter.unusedVariables false
set_option linter.unusedSimpArgs false
set_option maxRecDepth 100000
theorem ownK : ownKnob Try.prog.godebug = none := by kernel_rfl
theorem i64_wf {x : Int} (h : (Lit.int .i64 x).wf = true) : fits64 x := by
  simp [Lit.wf, IntKind.min, IntKind.max, IntKind.signed, IntKind.bits] at h
  unfold fits64
  omega
theorem u8_wf {x : Int} (h : (Lit.int .u8 x).wf = true) : ∃ n : Nat, x = (n : Int) ∧ n < 256 := by
  simp [Lit.wf, IntKind.min, IntKind.max, IntKind.signed, IntKind.bits] at h
  exact ⟨x.toNat, by omega, by omega⟩
section
variable {H : Type} {enc : TypeId × Value → H} {w : World} {base : Nat} {spare : Nat → Bool} {held : Bool}
theorem open_row {α : Type} [Inhabited α] {ec : α → List Value} {k : Nat} (hk : ∀ x, (ec x).length = k) (hk0 : 0 < k) {t e : TypeId} (ht : Try.prog.underlying t = some (.slice e)) (hc : Try.prog.cellsOf e = k) (Ok : α → Prop)
    (el : ∀ n cs y, cs.length = k → DataW.trod enc Try.prog w base spare held n e cs = some y → ∃ x, cs = ec x ∧ Ok x) {fuel : Nat} {cs : List Value} {x : DataW H × List MemPlace} (h : DataW.trod enc Try.prog w base spare held fuel t cs = some x) :
    ∃ (v : Value) (xs : List α) (P : PoolT), cs = [v] ∧ RowIn P ec k v xs ∧ (poolA P).ho w ∧ ∀ x ∈ xs, Ok x := by
  rcases open_slice ht h with ⟨hcs, _⟩ | ⟨a, len, cap, m, n, D, Pl, hcs, _, hl, hm, hmm, _, hx⟩
  · exact ⟨_, [], [], hcs, RowIn.nil 0, poolA_nil w, by simp⟩
  · have hml : len ≤ m := by rw [hmm]; split <;> omega
    rw [hc] at hx
    by_cases h0 : len = 0
    · subst h0
      exact ⟨_, [], [], hcs, ⟨some a, cap, rfl, by simp, fun h => by simp at h⟩, poolA_nil w, by simp⟩
    obtain ⟨b, o, spot⟩ := a
    have key : ∀ i, i < len → ∃ x : α, w.cells? base ((⟨b, o, spot⟩ : Addr).add (i * k)) k = some (ec x) ∧ Ok x := fun i hi => by
      obtain ⟨cs', h1, h2⟩ := hx i (by omega)
      obtain ⟨x, rfl, hok⟩ := el _ _ _ (World.cells?_some h1).2.1 h2
      exact ⟨x, h1, hok⟩
    obtain ⟨f, hf2⟩ := choose_lt (α := α) key
    have hcell : ∀ i, i < len → ∀ j u, (ec (f i))[j]? = some u → w.cell? (((⟨b, o, spot⟩ : Addr).add (i * k)).add j) = some u := fun i hi j u hj => by
      have hj4 : j < k := by have := (List.getElem?_eq_some_iff.1 hj).1; rwa [hk] at this
      have := (World.cells?_some (hf2 i hi).1).2.2 j hj4
      rw [this, hj]
    have hl4 : 0 < (ec (f 0)).length := by rw [hk]; omega
    have hspot : spot = none := by
      have := World.cell?_spot (hcell 0 (by omega) 0 _ (List.getElem?_eq_getElem hl4))
      simpa [Addr.add] using this
    subst hspot
    have hadd : ∀ i j, ((⟨b, o, none⟩ : Addr).add (i * k)).add j = ⟨b, o + (i * k + j), none⟩ := fun i j => by rw [Addr.add_mid, Addr.add_mid]; congr 1; omega
    have hblk : b < w.heap.size := by
      have := block_lt_of_cell (hcell 0 (by omega) 0 _ (List.getElem?_eq_getElem hl4))
      rw [hadd] at this
      exact this
    unfold maxLen at hm
    have hlen : ((List.range len).map f).length = len := by simp
    refine ⟨_, (List.range len).map f, [(b, o, flatG ec ((List.range len).map f))], hcs, ⟨some ⟨b, o, none⟩, cap, by rw [hlen], by rw [hlen]; unfold maxLen; omega, fun _ => ⟨b, o, rfl, by simp⟩⟩, ?_, ?_⟩
    · rw [poolA_ho]
      intro y hy
      simp only [List.mem_singleton] at hy
      subst hy
      refine ⟨hblk, fun jj u hj => ?_⟩
      have hjl := getElem_len hj
      rw [flatG_len ec k hk, hlen] at hjl
      have hi : jj / k < len := by rw [Nat.div_lt_iff_lt_mul hk0]; exact hjl
      have hjk : jj % k < k := Nat.mod_lt _ hk0
      have hget : ((List.range len).map f)[jj / k]? = some (f (jj / k)) := by rw [List.getElem?_map, List.getElem?_range hi]; rfl
      have hfl := flatG_get ec k hk _ (jj / k) _ hget (jj % k) hjk
      have hdm : jj / k * k + jj % k = jj := by have := Nat.div_add_mod jj k; rw [Nat.mul_comm] at this; exact this
      rw [hdm, hj] at hfl
      have := hcell (jj / k) hi (jj % k) u hfl.symm
      rw [hadd, hdm] at this
      exact this
    · intro y hy
      obtain ⟨i, hi, rfl⟩ := List.mem_map.1 hy
      exact (hf2 i (List.mem_range.1 hi)).2
theorem open_ints_row {t e : TypeId} (ht : Try.prog.underlying t = some (.slice e)) (he : Try.prog.underlying e = some (.int .i64)) (hc : Try.prog.cellsOf e = 1) {fuel : Nat} {cs : List Value} {x : DataW H × List MemPlace} (h : DataW.trod enc Try.prog w base spare held fuel t cs = some x) :
    ∃ (v : Value) (xs : List Int) (P : PoolT), cs = [v] ∧ RowIn P encZ 1 v xs ∧ (poolA P).ho w ∧ ∀ x ∈ xs, fits64 x :=
  open_row encZ_len (by omega) ht hc fits64 (fun n cs y hl hy => by
    obtain ⟨z, rfl, _, hz⟩ := DataW.trod_int he hy
    exact ⟨z, rfl, i64_wf hz⟩) h
theorem rows_all {rvs : List Value} (h : ∀ v ∈ rvs, ∃ (xs : List Int) (P : PoolT), RowIn P encZ 1 v xs ∧ (poolA P).ho w) :
    ∃ (nx : List (List Int)) (P : PoolT), rvs.length = nx.length ∧ (∀ (i : Nat) (rv : Value) (r : List Int), rvs[i]? = some rv → nx[i]? = some r → RowIn P encZ 1 rv r) ∧ (poolA P).ho w := by
  induction rvs with
  | nil => exact ⟨[], [], rfl, fun i rv r h => by simp at h, poolA_nil w⟩
  | cons v rvs ih =>
    obtain ⟨nx, P, h1, h2, h3⟩ := ih fun u hu => h u (by simp [hu])
    obtain ⟨xs, Q, h4, h5⟩ := h v (by simp)
    refine ⟨xs :: nx, Q ++ P, by simp [h1], fun i rv r hr hn => ?_, poolA_append h5 h3⟩
    cases i with
    | zero =>
      simp at hr hn
      subst hr hn
      exact h4.mono fun x hx => List.mem_append.2 (.inl hx)
    | succ i =>
      simp at hr hn
      exact (h2 i rv r hr hn).mono fun x hx => List.mem_append.2 (.inr hx)
instance : Inhabited Mk := ⟨⟨0, 0, 0, 0, 0⟩⟩
instance : Inhabited Value := ⟨.nilIface⟩
theorem take5 {α : Type} {cs : List α} (h : cs.length = 5) : ∃ a b c d e, cs = [a, b, c, d, e] := by
  match cs, h with
  | [a, b, c, d, e], _ => exact ⟨a, b, c, d, e, rfl⟩
theorem open_make {n : Nat} {cs : List Value} {y : DataW H × List MemPlace} (hl : cs.length = 5) (h : DataW.trod enc Try.prog w base spare held n 115 cs = some y) : ∃ m : Mk, cs = mkL m ∧ m.Fits := by
  obtain ⟨a, b, c, d, e, rfl⟩ := take5 hl
  obtain ⟨xs, k, _, _, _, hxl, hf⟩ := DataW.trod_struct Try.underlying115 h
  have c3 : Try.prog.cellsOf 3 = 1 := by kernel_rfl
  have c5 : Try.prog.cellsOf 5 = 1 := by kernel_rfl
  have get : ∀ i, i < 5 → ∃ y, xs[i]? = some y := fun i hi => ⟨xs[i]'(by rw [hxl]; exact hi), List.getElem?_eq_getElem _⟩
  obtain ⟨y0, g0⟩ := get 0 (by omega)
  obtain ⟨y1, g1⟩ := get 1 (by omega)
  obtain ⟨y2, g2⟩ := get 2 (by omega)
  obtain ⟨y3, g3⟩ := get 3 (by omega)
  obtain ⟨y4, g4⟩ := get 4 (by omega)
  have f0 : DataW.trod enc Try.prog w base spare held k 3 ((([a, b, c, d, e] : List Value).drop 0).take (Try.prog.cellsOf 3)) = some y0 := (hf 0 _ rfl).trans g0
  rw [c3] at f0
  have f1 : DataW.trod enc Try.prog w base spare held k 5 ((([a, b, c, d, e] : List Value).drop 1).take (Try.prog.cellsOf 5)) = some y1 := (hf 1 _ rfl).trans g1
  rw [c5] at f1
  have f2 : DataW.trod enc Try.prog w base spare held k 3 ((([a, b, c, d, e] : List Value).drop 2).take (Try.prog.cellsOf 3)) = some y2 := (hf 2 _ rfl).trans g2
  rw [c3] at f2
  have f3 : DataW.trod enc Try.prog w base spare held k 3 ((([a, b, c, d, e] : List Value).drop 3).take (Try.prog.cellsOf 3)) = some y3 := (hf 3 _ rfl).trans g3
  rw [c3] at f3
  have f4 : DataW.trod enc Try.prog w base spare held k 3 ((([a, b, c, d, e] : List Value).drop 4).take (Try.prog.cellsOf 3)) = some y4 := (hf 4 _ rfl).trans g4
  rw [c3] at f4
  obtain ⟨z0, e0, _, w0⟩ := DataW.trod_int Try.underlying3 f0
  obtain ⟨z1, e1, _, w1⟩ := DataW.trod_int Try.underlying5 f1
  obtain ⟨z2, e2, _, w2⟩ := DataW.trod_int Try.underlying3 f2
  obtain ⟨z3, e3, _, w3⟩ := DataW.trod_int Try.underlying3 f3
  obtain ⟨z4, e4, _, w4⟩ := DataW.trod_int Try.underlying3 f4
  simp only [List.drop_zero, List.take_succ_cons, List.take_zero, List.drop_succ_cons, List.cons.injEq, and_true] at e0 e1 e2 e3 e4
  obtain ⟨l, rfl, hl8⟩ := u8_wf w1
  subst e0 e1 e2 e3 e4
  exact ⟨⟨z0, l, z2, z3, z4⟩, rfl, ⟨i64_wf w0, hl8, i64_wf w2, i64_wf w3, i64_wf w4⟩⟩
theorem open_input {fuel : Nat} {cs : List Value} {x : DataW H × List MemPlace} (h : DataW.trod enc Try.prog w base spare held fuel 29 cs = some x) :
    ∃ (P : PoolT) (cv nv av hv lv : Value) (rvs : List Value) (R : Raw) (ms : List Mk) (N : Int), cs = [.int .i64 R.start, cv, nv, av, hv, lv, .int .i64 N] ∧ RawAt P cv nv av hv rvs R ∧ RowIn P mkL 5 lv ms ∧ (∀ m ∈ ms, m.Fits) ∧ fits64 R.start ∧ fits64 N ∧ (poolA P).ho w := by
  have c29 : Try.prog.cellsOf 29 = 7 := by kernel_rfl
  have c26 : Try.prog.cellsOf 26 = 4 := by kernel_rfl
  have c22 : Try.prog.cellsOf 22 = 1 := by kernel_rfl
  have c23 : Try.prog.cellsOf 23 = 1 := by kernel_rfl
  have c24 : Try.prog.cellsOf 24 = 1 := by kernel_rfl
  have c27 : Try.prog.cellsOf 27 = 1 := by kernel_rfl
  have c3 : Try.prog.cellsOf 3 = 1 := by kernel_rfl
  have c4 : Try.prog.cellsOf 4 = 1 := by kernel_rfl
  have c115 : Try.prog.cellsOf 115 = 5 := by kernel_rfl
  obtain ⟨y0, y1, y2, y3, n, _, hl, f0, f1, f2, f3⟩ := Joins.trod_struct4 Try.underlying29 h
  rw [c29] at hl
  obtain ⟨a0, a1, a2, a3, a4, a5, a6, rfl⟩ : ∃ a0 a1 a2 a3 a4 a5 a6, cs = [a0, a1, a2, a3, a4, a5, a6] := by
    match cs, hl with
    | [a0, a1, a2, a3, a4, a5, a6], _ => exact ⟨a0, a1, a2, a3, a4, a5, a6, rfl⟩
  simp only [c26, c22, c27, c3, List.drop_zero, List.take_succ_cons, List.take_zero, List.drop_succ_cons] at f0 f1 f2 f3
  obtain ⟨z0, z1, z2, z3, n2, _, _, g0, g1, g2, g3⟩ := Joins.trod_struct4 Try.underlying26 f0
  simp only [c22, c23, c24, c3, List.drop_zero, List.take_succ_cons, List.take_zero, List.drop_succ_cons] at g0 g1 g2 g3
  obtain ⟨st, e0, _, w0⟩ := DataW.trod_int Try.underlying3 g0
  obtain ⟨N, e6, _, w6⟩ := DataW.trod_int Try.underlying3 f3
  obtain ⟨cv, cls, P1, e1, r1, p1, _⟩ := open_ints_row Try.underlying22 Try.underlying3 c3 g1
  obtain ⟨nv, rvs, P2, e2, r2, p2, hrv⟩ := open_row (ec := encV) encV_len (by omega) Try.underlying23 c22 (fun v => ∃ (xs : List Int) (P : PoolT), RowIn P encZ 1 v xs ∧ (poolA P).ho w) (fun n cs y hl hy => by
    obtain ⟨v, xs, P, rfl, hr, hp, _⟩ := open_ints_row Try.underlying22 Try.underlying3 c3 hy
    exact ⟨v, rfl, xs, P, hr, hp⟩) g2
  obtain ⟨av, acc, P3, e3, r3, p3, _⟩ := open_row (ec := encB) encB_len (by omega) Try.underlying24 c4 (fun _ => True) (fun n cs y hl hy => by
    obtain ⟨b, rfl, _⟩ := DataW.trod_bool Try.underlying4 hy
    exact ⟨b, rfl, trivial⟩) g3
  obtain ⟨hv, wts, P4, e4, r4, p4, _⟩ := open_ints_row Try.underlying22 Try.underlying3 c3 f1
  obtain ⟨lv, ms, P5, e5, r5, p5, hms⟩ := open_row (ec := mkL) mkL_len (by omega) Try.underlying27 c115 Mk.Fits (fun n cs y hl hy => open_make hl hy) f2
  obtain ⟨nx, P6, hlen, hrows, p6⟩ := rows_all hrv
  simp only [List.cons.injEq, and_true] at e0 e1 e2 e3 e4 e5 e6
  subst e0 e1 e2 e3 e4 e5 e6
  have i1 : ∀ x ∈ P1, x ∈ P1 ++ (P2 ++ (P3 ++ (P4 ++ (P5 ++ P6)))) := fun x hx => by simp [hx]
  have i2 : ∀ x ∈ P2, x ∈ P1 ++ (P2 ++ (P3 ++ (P4 ++ (P5 ++ P6)))) := fun x hx => by simp [hx]
  have i3 : ∀ x ∈ P3, x ∈ P1 ++ (P2 ++ (P3 ++ (P4 ++ (P5 ++ P6)))) := fun x hx => by simp [hx]
  have i4 : ∀ x ∈ P4, x ∈ P1 ++ (P2 ++ (P3 ++ (P4 ++ (P5 ++ P6)))) := fun x hx => by simp [hx]
  have i5 : ∀ x ∈ P5, x ∈ P1 ++ (P2 ++ (P3 ++ (P4 ++ (P5 ++ P6)))) := fun x hx => by simp [hx]
  have i6 : ∀ x ∈ P6, x ∈ P1 ++ (P2 ++ (P3 ++ (P4 ++ (P5 ++ P6)))) := fun x hx => by simp [hx]
  exact ⟨P1 ++ (P2 ++ (P3 ++ (P4 ++ (P5 ++ P6)))), _, _, _, _, _, rvs, ⟨st, cls, nx, acc, wts⟩, ms, N, rfl, ⟨r1.mono i1, r2.mono i2, hlen, fun i rv r h1 h2 => (hrows i rv r h1 h2).mono i6, r3.mono i3, r4.mono i4⟩, r5.mono i5, hms, i64_wf w0, i64_wf w6, poolA_append p1 (poolA_append p2 (poolA_append p3 (poolA_append p4 (poolA_append p5 p6))))⟩
theorem arg_input {r : Reach} {b0 : Nat} {v : Value} {d : DataW H} {p : List MemPlace} (hv : Value.okWide Try.prog w r b0 29 v) (h : DataW.Trod enc Try.prog w base spare held 29 v d p) :
    ∃ (P : PoolT) (cv nv av hv lv : Value) (rvs : List Value) (R : Raw) (ms : List Mk) (N : Int), v = .agg #[.int .i64 R.start, cv, nv, av, hv, lv, .int .i64 N] ∧ RawAt P cv nv av hv rvs R ∧ RowIn P mkL 5 lv ms ∧ (∀ m ∈ ms, m.Fits) ∧ fits64 R.start ∧ fits64 N ∧ (poolA P).ho w := by
  obtain ⟨cs, rfl, _⟩ := okWide_struct Try.underlying29 hv
  obtain ⟨fuel, hf⟩ := h
  obtain ⟨P, cv, nv, av, hv', lv, rvs, R, ms, N, e, h1⟩ := open_input hf
  refine ⟨P, cv, nv, av, hv', lv, rvs, R, ms, N, ?_, h1⟩
  have e2 : cs.toList = [.int .i64 R.start, cv, nv, av, hv', lv, .int .i64 N] := e
  rw [← e2]
theorem arg_int {r : Reach} {b0 : Nat} {v : Value} {d : DataW H} {p : List MemPlace} (hv : Value.okWide Try.prog w r b0 3 v) (h : DataW.Trod enc Try.prog w base spare held 3 v d p) : ∃ z, v = .int .i64 z ∧ fits64 z := by
  obtain ⟨z, rfl, h1, h2, h3⟩ := open_int Try.underlying3 hv h
  exact ⟨z, rfl, i64_wf h3⟩
end
end Go.Proofs.Ytijnhpaafhcndaa
end
section
namespace Go.Proofs.Ytijnhpaafhcndaa.lawAll
open Go.ChangeShapes Go.WideShapes Go.ChangeAt Go.RowKit
open Go.Proofs.Ytijnhpaafhcndaa
set_option linter.unusedVariables false
set_option maxRecDepth 100000 in
theorem lifted (os : Os) (started : os.Started) (H : Type) (enc : TypeId × Value → H) :
    ReturnsInHanded {} Try.checked os 5 .any (Rows.locateAllSpec.pre6 enc Try.prog Try.f5 Rows.locateAllRow.domain false) (Rows.locateAllSpec.post enc Try.prog Try.f5 false true false false) := by
  refine returnsInHanded_of_change (C := Try.checked) ownK started (by kernel_rfl) Try.func5
    (ChangeSpec.witness6 (enc := enc) (C := Try.checked) false ⟨#[], #[.agg #[.int .i64 0, .slice none 0 0, .slice none 0 0, .slice none 0 0, .slice none 0 0, .slice none 0 0, .int .i64 0], .int .i64 0], []⟩ 8 (by kernel_rfl) (by kernel_rfl) (by kernel_rfl) (by kernel_rfl)) ?_
  intro W base args ds gs before hval0 hW hcnd _
  have hval : ∀ (j : Nat) t v, Try.f5.params[j]? = some t → args[j]? = some v → Value.okWide Try.prog W .any base t v := hval0
  have hW' := hW
  obtain ⟨p, q, hA0, hV, rfl, hfz, hnd⟩ := hW
  have hA : DataW.TrodAll enc Try.prog W 0 (fun _ => true) true Try.f5.params.toList args.toList ds p := hA0
  rw [Try.params5] at hA hval
  obtain ⟨v0, vs0, d0, ds0, p0, q0, hargs, rfl, rfl, h0, r0⟩ := trodAll_cons hA
  obtain ⟨v1, vs1, d1, ds1, p1, q1, rfl, rfl, rfl, h1, r1⟩ := trodAll_cons r0
  obtain ⟨rfl, rfl, rfl⟩ := trodAll_nil r1
  obtain rfl : args = #[v0, v1] := by cases args; simp_all
  obtain ⟨rfl, rfl⟩ := trodVars_none hV
  have k0 := h0
  have lt0 : ∀ x ∈ p0, x.block < W.heap.size := by obtain ⟨m, hm⟩ := k0; exact DataW.trod_lt m _ _ _ hm
  have k1 := h1
  have lt1 : ∀ x ∈ p1, x.block < W.heap.size := by obtain ⟨m, hm⟩ := k1; exact DataW.trod_lt m _ _ _ hm
  obtain ⟨P, cv, nv, av, hv, lv, rvs, R, ms, N, rfl, hraw, hms, hf, hs, hN, hp⟩ := arg_input (hval 0 29 v0 rfl rfl) h0
  obtain ⟨z1, rfl, b1⟩ := arg_int (hval 1 3 v1 rfl rfl) h1
  clear hA0 hval0
  refine (all_walk hraw hms hf hs hN b1 W hp).mono fun e W' ⟨he, bel⟩ => ?_
  subst he
  exact ⟨_, rfl, _, _, _, [], _, [], hW', trodAll_mk1 (shut_bool Try.underlying4 _), (trodAll_cons_mk (Below.trod laidOut_ok (by kernel_rfl) (of_decide_eq_true (by kernel_rfl)) k0 bel.below lt0) (trodAll_cons_mk (Below.trod laidOut_ok (by kernel_rfl) (of_decide_eq_true (by kernel_rfl)) k1 bel.below lt1) trodAll_mk0)), rfl, bel.below.frame _, fun h => by cases h⟩
theorem over : Rows.locateAllRow.holds Try.pinned (OpenSpec.ofChange Rows.locateAllSpec) :=
  OpenClaim.holds_of_wide 5 Try.f5 rfl rfl rfl rfl rfl rfl rfl ⟨rfl, rfl, rfl, rfl, rfl⟩ rfl rfl rfl rfl rfl (by kernel_rfl) Try.func5 (by kernel_rfl)
    (of_decide_eq_true (by kernel_rfl)) (by unfold Func.isWrapper; first | (rw [if_pos (by decide +kernel)]; kernel_rfl) | (rw [if_neg (by decide +kernel)]; exact ⟨rfl, rfl⟩))
    (fun os started H enc _ => lifted os started H enc)
theorem proved : Rows.LocateAllSaid := over
#print axioms proved
end Go.Proofs.Ytijnhpaafhcndaa.lawAll
end
