/-
  LocateSteps: the given statement. For every input the law returns true and leaves its arguments. No condition beyond the statement's own.
-/
import Derived.Test.YtijnhpaafhcndaaBa5
import Derived.ChangeOld
import Derived.Deep.Slices
import Derived.Lib.SmallJoins
import Derived.OpenShut
import Derived.ProofKit
import Derived.ShutString
import Derived.Test.YtijnhpaafhcndaaRows
section
namespace Go.Proofs.Ytijnhpaafhcndaa
open Go.RowKit Go.Maps
attribute [local go_sem] InGr
set_option maxHeartbeats 4000000
set_option maxRecDepth 100000
set_option linter.unusedSimpArgs false
set_option linter.unusedVariables false
section
variable {ops : Array Oper} {Q : Exit → Act → World → Prop} {rest : List Oper} {a : Act} {w w0 : World} {M : List Nat} {L : List As} {o1 : Oper}
theorem AtSlice.zero {α : Type} (enc : α → List Value) {t e : TypeId} (H : St w0 M L w) (hw : Region.wanted o1 (yielded ops a.tmps) = true) (ho : o1.op = .buildSlice t 0 #[]) (hte : sliceO t = some e) {z : Value} {k bytes : Nat} (hi : infoO e = some (z, k, bytes)) (hk : ∀ x, (enc x).length = k)
    (h : ∀ b w', St w0 M (rowsA enc e k (.slice (some ⟨b, 0, none⟩) 0 0) [] :: L) w' → wpList Try.prog ops Q rest (a.put o1.dst (.slice (some ⟨b, 0, none⟩) 0 0)) w') : AtSlice Try.prog ops Q o1 t 0 #[] rest a w :=
  wpList_step fun _ hK => by
    rw [if_pos hw]
    unfold Oper.wp execOp
    simp only [ho, List.map_toArray, List.map_nil, Sem.run_bind, run_slice0 hte hi, Result.andThen_ok, Sem.run_pure]
    exact hK _ _ (h _ _ ((H.alloc (.cells #[] e)).conv (by rw [rowsA_fp', blk_fp]; rfl) fun hb => rowsA_of_blk (xs := []) (by rw [blk_ho] at hb; exact hb) (by simp [maxLen]) (by simp [flatG]) hk))
end
end Go.Proofs.Ytijnhpaafhcndaa
end
section
namespace Go.Proofs.Ytijnhpaafhcndaa
open Go.RowKit Go.Maps
attribute [local go_sem] InGr
set_option maxHeartbeats 8000000
set_option maxRecDepth 100000
set_option linter.unusedSimpArgs false
set_option linter.unusedVariables false
end Go.Proofs.Ytijnhpaafhcndaa
end
section
namespace Go.Proofs.Ytijnhpaafhcndaa
open Go.RowKit Go.Maps
attribute [local go_sem] InGr
set_option maxHeartbeats 8000000
set_option maxRecDepth 100000
set_option linter.unusedSimpArgs false
set_option linter.unusedVariables false
end Go.Proofs.Ytijnhpaafhcndaa
end
section
namespace Go.Proofs.Ytijnhpaafhcndaa
open Go.RowKit Go.Maps
attribute [local go_sem] InGr
set_option maxHeartbeats 8000000
set_option maxRecDepth 100000
set_option linter.unusedSimpArgs false
set_option linter.unusedVariables false
end Go.Proofs.Ytijnhpaafhcndaa
end
section
namespace Go.Proofs.Ytijnhpaafhcndaa
open Go.RowKit Go.Maps
attribute [local go_sem] InGr
set_option maxHeartbeats 8000000
set_option maxRecDepth 100000
set_option linter.unusedSimpArgs false
set_option linter.unusedVariables false
section
variable {ops : Array Oper} {Q : Exit → Act → World → Prop} {rest : List Oper} {a : Act} {w w0 : World} {o1 : Oper} {dst : Option Tmp} {ty0 : TypeId} {pos : String} {aft : Array Edge} {gd : Option (Nat × Bool)}
theorem run_cut {t e : TypeId} (hte : sliceO t = some e) {z : Value} {k bytes : Nat} (hi : infoO e = some (z, k, bytes)) {ad : Option Addr} {n c m : Nat} (had : ad = none ∨ ∃ g, ad = some ⟨g, 0, none⟩) (hm : m ≤ c) (w : World) :
    (Instr.sliceAt t (.slice ad n c) none (some (.int .i64 (m : Nat))) none).run Try.prog w = .ok (.slice ad m c) w := by
  obtain ⟨i, h2, h3, h4, h5⟩ := infoO_ok hi
  have hu := sliceO_ok hte
  have hb : (Instr.sliceBound (Value.int .i64 (m : Nat)) c .sliceAcap).run Try.prog w = .ok m w := by
    unfold Instr.sliceBound
    simp [asIntOf, hm]
  rcases had with rfl | ⟨g, rfl⟩
  · simp [Instr.sliceAt, Instr.slice, Instr.sliceBounds, run_underlying hu, sizeOf, typeInfo, h2, Sem.run_bind, Result.andThen, hb]
  · simp [Instr.sliceAt, Instr.slice, Instr.sliceBounds, run_underlying hu, sizeOf, typeInfo, h2, Sem.run_bind, Result.andThen, hb, Addr.add]
theorem AtCut.any {t e : TypeId} {x y : Operand} (hw : Region.wanted o1 (yielded ops a.tmps) = true) (ho : o1.op = .slice t x none (some y) none) (hte : sliceO t = some e) {z : Value} {k bytes : Nat} (hi : infoO e = some (z, k, bytes)) {ad : Option Addr} {n c m : Nat} (hx : a.eval x = .slice ad n c) (hy : a.eval y = .int .i64 (m : Nat)) (had : ad = none ∨ ∃ g, ad = some ⟨g, 0, none⟩) (hm : m ≤ c)
    (h : wpList Try.prog ops Q rest (a.put o1.dst (.slice ad m c)) w) : AtCut Try.prog ops Q o1 t x y rest a w :=
  wpList_step fun _ hK => by
    rw [if_pos hw]
    unfold Oper.wp execOp
    simp only [ho, hx, hy, Option.map_none, Option.map_some, Sem.run_bind, run_cut hte hi had hm, Result.andThen_ok, Sem.run_pure]
    exact hK _ _ h
end
end Go.Proofs.Ytijnhpaafhcndaa
end
section
namespace Go.Proofs.Ytijnhpaafhcndaa
open Go.RowKit Go.Maps
attribute [local go_sem] InGr
set_option maxHeartbeats 4000000
set_option maxRecDepth 100000
set_option linter.unusedSimpArgs false
set_option linter.unusedVariables false
structure TK (S : Sto) (p s : Nat) (mc : Mc) (bk : Bool) (T : Tab) : Prop where
  ok : TabOk S T
  p : T.p = p
  s : T.s = s
  mc : T.mc = mc
  bk : T.back = bk
theorem TK.ext {S : Sto} {p s : Nat} {mc : Mc} {bk : Bool} {T T' : Tab} (h : TK S p s mc bk T) (hx : T.Ext T') (hT : TabOk S T') : TK S p s mc bk T' := by
  obtain ⟨x1, x2, x3, x4, x5, x6⟩ := hx.same
  exact ⟨hT, x1.trans h.p, x2.trans h.s, x5.trans h.mc, x6.trans h.bk⟩
abbrev TPost (S : Sto) (p s : Nat) (mc : Mc) (bk : Bool) (v : Value) (w : World) (M : List Nat) (e : Ending) (w' : World) : Prop := ∃ T, e = .returned v ∧ TK S p s mc bk T ∧ St w M [tabA T] w'
def TC (S : Sto) (lv : Value) (m p s : Nat) (mc : Mc) (bk : Bool) (f : FuncId) (args : Array Value) (v : Value) : Prop :=
  ∀ T w, TK S p s mc bk T → ((tabA T).sep (stoA s lv m S)).ho w → Calls Try.prog f args w (TPost S p s mc bk v w (tabA T).fp)
def TQ (S : Sto) (lv : Value) (m p s : Nat) (mc : Mc) (bk : Bool) (f : FuncId) (args : Array Value) (v : Value) : Prop :=
  ∀ T w, TK S p s mc bk T → (tabA T).ho w → (stoA s lv m S).ho w → Calls Try.prog f args w fun e w' => e = .returned v ∧ St w [] [] w'
section
variable {S : Sto} {lv : Value} {m p s : Nat} {mc : Mc} {bk : Bool} {f : FuncId} {args : Array Value} {v : Value} {T : Tab} {w w0 : World} {M : List Nat} {L R K : List As}
theorem TC.mk (k : ∀ T w M, Hid (TK S p s mc bk T) → St w M [tabA T] w → Ks w M [stoA s lv m S] → Calls Try.prog f args w (TPost S p s mc bk v w M)) : TC S lv m p s mc bk f args v := fun T w hT h => by
  rw [sep_ho] at h
  obtain ⟨h1, h2, hd⟩ := h
  exact k T w _ (Lib.hid hT) (St.one h1) ⟨by simpa using h2, by simpa using fun b hb hm => hd b hm hb⟩
theorem TC.of (k : ∀ T w, TK S p s mc bk T → ((tabA T).sep (stoA T.s lv m S)).ho w → Calls Try.prog f args w (TabPost S T v (tabA T).fp w)) : TC S lv m p s mc bk f args v := fun T w hT h => by
  refine (k T w hT (by rw [hT.s]; exact h)).mono ?_
  rintro e w' ⟨T', he, hx, hT', hs⟩
  exact ⟨T', he, hT.ext hx hT', hs⟩
theorem TC.use (hc : TC S lv m p s mc bk f args v) (hT : TK S p s mc bk T) (H : St w0 M L w) (hp : Pick L (tabA T) R) (hs : ((tabA T).sep (stoA s lv m S)).ho w) {Q : Ending → World → Prop} (k : ∀ T' w', Hid (TK S p s mc bk T') → St w0 M (tabA T' :: R) w' → Q (.returned v) w') : Calls Try.prog f args w Q := by
  refine (hc T w hT hs).mono ?_
  rintro e w' ⟨T', rfl, hT', hst⟩
  exact k T' w' (Lib.hid hT') (by simpa using (H.pick hp).call hst)
theorem TQ.use (hc : TQ S lv m p s mc bk f args v) (hT : TK S p s mc bk T) (H : St w0 M L w) (hp : Pick L (tabA T) R) (hs : ((tabA T).sep (stoA s lv m S)).ho w) {Q : Ending → World → Prop} (k : ∀ w', St w0 M L w' → Q (.returned v) w') : Calls Try.prog f args w Q := by
  rw [sep_ho] at hs
  refine (hc T w hT hs.1 hs.2.1).mono ?_
  rintro e w' ⟨rfl, hst⟩
  exact k w' (H.grew hst.below)
theorem St.sepO {A B : As} {R R' : List As} (h : St w0 M L w) (h1 : Pick L A R) (h2 : Pick R B R') : (A.sep B).ho w := by
  have := (h.pick2 h1 h2).join
  exact this.ho _ List.mem_cons_self
end
theorem ts {P : Prop} (h : P := by first | exact H.sepK HK pk pk | exact H.sepO pk pk) : P := h
def Sto.dtx (S : Sto) (bk : Bool) (id : Nat) : List Nat := dirT bk (S.txt id)
theorem dtx_lt {S : Sto} (hS : S.Ok) (bk : Bool) {id : Nat} (hid : id ≤ S.list.length) : ∀ b ∈ S.dtx bk id, b < 256 := fun b hb => S.txt_lt hS hid b (by unfold Sto.dtx dirT at hb; split at hb; simpa using hb; exact hb)
theorem dtx_len (S : Sto) (bk : Bool) (id : Nat) : (S.dtx bk id).length = (S.txt id).length := by unfold Sto.dtx dirT; split <;> simp
section
variable {S : Sto} {lv : Value} {m p s : Nat} {mc : Mc} {bk : Bool} {id q : Nat}
theorem send_t (hS : S.Ok) (hid : id ≤ S.list.length) (hq : q < mc.n) : TC S lv m p s mc bk 46 #[.pointer (some ⟨p, 0, none⟩), .int .i64 id, .int .i64 q] (.int .i64 (mc.ends q (S.dtx bk id) : Nat)) :=
  TC.of fun T w hT h => by
    obtain ⟨ok, rfl, rfl, rfl, rfl⟩ := hT
    exact send_c hS ok hid hq w h
theorem ssize_t (hS : S.Ok) (hid : id ≤ S.list.length) : TQ S lv m p s mc bk 36 #[.pointer (some ⟨p, 0, none⟩), .int .i64 id] (.int .i64 ((S.txt id).length : Nat)) := fun T w hT h1 h2 => by
  obtain ⟨ok, rfl, rfl, rfl, rfl⟩ := hT
  exact ssize_c hS ok hid w h1 h2
theorem store_t : TQ S lv m p s mc bk 44 #[.pointer (some ⟨p, 0, none⟩)] (.pointer (some ⟨s, 0, none⟩)) := fun T w hT h1 h2 => by
  obtain ⟨ok, rfl, rfl, rfl, rfl⟩ := hT
  refine (store_c ok w h1).mono ?_
  rintro e w' ⟨he, rfl⟩
  exact ⟨he, St.nil _ _⟩
def hitsV (x : Nat) : Value := if x ≤ 1152921504606846976 then .tuple #[.int .i64 x, .nilIface] else .tuple #[.int .i64 0, .iface 42 (.int .i64 2)]
theorem hits_t (hS : S.Ok) (hid : id ≤ S.list.length) (hq : q < mc.n) : TC S lv m p s mc bk 79 #[.pointer (some ⟨p, 0, none⟩), .int .i64 id, .int .i64 q] (hitsV (mc.sum q (S.dtx bk id))) := by
  refine TC.mk fun T w M HT H HK => ?_
  have hTK := HT.out
  obtain ⟨hok, rfl, rfl, rfl, rfl⟩ := hTK
  have HE : Hid (∀ w, ((tabA T).sep (stoA T.s lv m S)).ho w → Calls Try.prog 101 #[.pointer (some ⟨T.p, 0, none⟩), .int .i64 id, .int .i64 q] w (fun e w' => ∃ T' a1 n1 c1 a2 n2 c2, e = .returned (.tuple #[.agg #[.slice a1 n1 c1, .slice a2 n2 c2], .nilIface]) ∧ T.Ext T' ∧ TabOk S T' ∧ (id ≠ 0 → EffAt T'.P T.mc (dirT T.back (S.txt id)) (.slice a1 n1 c1) (.slice a2 n2 c2)) ∧ St w (tabA T).fp [tabA T'] w')) := Lib.hid fun w h => effect_c hS hok hid hq w h
  unfold Sto.dtx
  by_cases hz : id = 0
  · have e0 : T.mc.sum q (dirT T.back (S.txt id)) = 0 := by subst hz; rw [S.txt_zero]; unfold dirT; split <;> rfl
    rw [e0]
    have hz0 : ((id : Int) == 0) = true := by simp [hz]
    clear hok hz e0
    go_enter Try.func79, Try.ntmps79
    go_wp2_with (first | refine sL ?_ | (refine sS ?_; clear H; intro _ H) | (refine sA ?_; clear H; intro _ _ H) | (go_at_call 101; with_reducible refine Calls.mono (HE.out _ ts) ?_; rintro e wc ⟨T', a1, n1, c1, a2, n2, c2, rfl, hext, hT', hef, hb⟩; replace H := H.call hb; clear hb; simp only [List.cons_append, List.nil_append] at H; have HX := Lib.hid (HT.out.ext hext hT'); clear hext hT' hef))
    go_ret2
    exact ⟨T', by unfold hitsV; rfl, HX.out, (H.pick (A := tabA T') pk).onlyHead⟩
  · have hz0 : ((id : Int) == 0) = false := by simp; omega
    have hget := effH_get hq (dirT T.back (S.txt id))
    have HG := Lib.hid hget
    have HZ := Lib.hid hz
    have hle := capN_le (T.mc.sum q (dirT T.back (S.txt id)))
    unfold beyond at hle
    have hcap : hitsV (T.mc.sum q (dirT T.back (S.txt id))) = hitsV (capN (T.mc.sum q (dirT T.back (S.txt id)))) := by
      unfold hitsV capN beyond
      split
      · rw [if_pos (by omega)]; congr 4; omega
      · rw [if_neg (by omega)]
    rw [hcap]
    generalize capN (T.mc.sum q (dirT T.back (S.txt id))) = r at *
    clear hok hz hget hcap
    by_cases hr : r ≤ 1152921504606846976
    · have d1 : decide ((1152921504606846976 : Int) < (r : Int)) = false := by simp; omega
      unfold hitsV
      rw [if_pos hr]
      clear hr
      go_enter Try.func79, Try.ntmps79
      go_wp2_with (first | refine sL ?_ | (refine sS ?_; clear H; intro _ H) | (refine sA ?_; clear H; intro _ _ H) | (go_at_call 101; with_reducible refine Calls.mono (HE.out _ ts) ?_; rintro e wc ⟨T', a1, n1, c1, a2, n2, c2, rfl, hext, hT', hef, hb⟩; replace H := H.call hb; clear hb; simp only [List.cons_append, List.nil_append] at H; have HX := Lib.hid (HT.out.ext hext hT'); obtain ⟨g1, o1, d1', he1, hrow⟩ := (EffAt.rowH (hef HZ.out)).hasN (effH_len _ _) (Nat.lt_of_le_of_lt (Nat.zero_le _) hq); injection he1 with x1 x2 x3; subst x1 x2 x3; have HROW := Lib.hid hrow; clear hrow; clear hext hT' hef) | ((with_reducible refine isLoad ?_); refine AtLoad.cel rfl rfl rfl rfl (HROW.out.cell (tabA_pool (H.get (A := tabA T') pk)) encI_len HG.out rfl) ?_; simp only [Act.put, puA, puB, puC]))
      go_ret2
      exact ⟨T', rfl, HX.out, (H.pick (A := tabA T') pk).onlyHead⟩
    · have d1 : decide ((1152921504606846976 : Int) < (r : Int)) = true := by simp; omega
      unfold hitsV
      rw [if_neg hr]
      clear hr
      go_enter Try.func79, Try.ntmps79
      go_wp2_with (first | refine sL ?_ | (refine sS ?_; clear H; intro _ H) | (refine sA ?_; clear H; intro _ _ H) | (go_at_call 101; with_reducible refine Calls.mono (HE.out _ ts) ?_; rintro e wc ⟨T', a1, n1, c1, a2, n2, c2, rfl, hext, hT', hef, hb⟩; replace H := H.call hb; clear hb; simp only [List.cons_append, List.nil_append] at H; have HX := Lib.hid (HT.out.ext hext hT'); obtain ⟨g1, o1, d1', he1, hrow⟩ := (EffAt.rowH (hef HZ.out)).hasN (effH_len _ _) (Nat.lt_of_le_of_lt (Nat.zero_le _) hq); injection he1 with x1 x2 x3; subst x1 x2 x3; have HROW := Lib.hid hrow; clear hrow; clear hext hT' hef) | ((with_reducible refine isLoad ?_); refine AtLoad.cel rfl rfl rfl rfl (HROW.out.cell (tabA_pool (H.get (A := tabA T') pk)) encI_len HG.out rfl) ?_; simp only [Act.put, puA, puB, puC]))
      go_ret2
      exact ⟨T', rfl, HX.out, (H.pick (A := tabA T') pk).onlyHead⟩
theorem hit_t (hS : S.Ok) (hid : id ≤ S.list.length) (hq : q < mc.n) : TC S lv m p s mc bk 74 #[.pointer (some ⟨p, 0, none⟩), .int .i64 id, .int .i64 q] (.bool (decide (0 < mc.sum q (S.dtx bk id)))) := by
  refine TC.mk fun T w M HT H HK => ?_
  have HI := Lib.hid (hits_t (lv := lv) (m := m) (p := p) (s := s) (bk := bk) hS hid hq)
  generalize mc.sum q (S.dtx bk id) = x at *
  unfold hitsV at HI
  by_cases hx : x ≤ 1152921504606846976
  · rw [if_pos hx] at HI
    have e1 : decide (0 < x) = decide ((0 : Int) < (x : Int)) := by simp
    go_enter Try.func74, Try.ntmps74
    go_wp2_with (first | (go_at_call 79; with_reducible refine TC.use HI.out HT.out H pk ts ?_; clear H; intro T' _ HT' H))
    go_ret
    exact ⟨T', by rw [e1]; rfl, HT'.out, H⟩
  · rw [if_neg hx] at HI
    have e1 : decide (0 < x) = true := by simp; omega
    rw [e1]
    clear e1
    go_enter Try.func74, Try.ntmps74
    go_wp2_with (first | (go_at_call 79; with_reducible refine TC.use HI.out HT.out H pk ts ?_; clear H; intro T' _ HT' H))
    go_ret
    exact ⟨T', rfl, HT'.out, H⟩
end
end Go.Proofs.Ytijnhpaafhcndaa
end
section
namespace Go.Proofs.Ytijnhpaafhcndaa
set_option linter.unusedSimpArgs false
set_option linter.unusedVariables false
def hitF : List Nat → Nat
  | [] => 0
  | x :: r => if 0 < x then 1 else if hitF r = 0 then 0 else hitF r + 1
def hitL : List Nat → Nat
  | [] => 0
  | x :: r => if hitL r = 0 then (if 0 < x then 1 else 0) else hitL r + 1
theorem hitF_append (a b : List Nat) : hitF (a ++ b) = if hitF a = 0 then (if hitF b = 0 then 0 else a.length + hitF b) else hitF a := by
  induction a with
  | nil => simp [hitF]
  | cons x a ih =>
    rw [List.cons_append, hitF, hitF, ih]
    by_cases hx : 0 < x
    · simp [hx]
    · simp only [hx, if_false]
      by_cases ha : hitF a = 0
      · simp only [ha, if_true]
        by_cases hb : hitF b = 0
        · simp [hb]
        · simp only [hb, if_false, List.length_cons]
          rw [if_neg (by omega)]
          omega
      · simp [ha]
theorem hitL_append (a b : List Nat) : hitL (a ++ b) = if hitL b = 0 then hitL a else a.length + hitL b := by
  induction a with
  | nil => simp [hitL]
  | cons x a ih =>
    rw [List.cons_append, hitL, hitL, ih]
    by_cases hb : hitL b = 0
    · simp [hb]
    · simp only [hb, if_false, List.length_cons]
      rw [if_neg (by omega)]
      omega
theorem hitF_zero (a : List Nat) : hitF a = 0 ↔ a.sum = 0 := by
  induction a with
  | nil => simp [hitF]
  | cons x a ih =>
    rw [hitF, List.sum_cons]
    by_cases hx : 0 < x
    · simp [hx]; omega
    · simp only [hx, if_false]
      split <;> omega
theorem hitL_zero (a : List Nat) : hitL a = 0 ↔ a.sum = 0 := by
  induction a with
  | nil => simp [hitL]
  | cons x a ih =>
    rw [hitL, List.sum_cons]
    split
    · split <;> omega
    · omega
theorem hitF_le (a : List Nat) : hitF a ≤ a.length := by
  induction a with
  | nil => simp [hitF]
  | cons x a ih =>
    rw [hitF, List.length_cons]
    split
    · omega
    · split <;> omega
theorem hitL_le (a : List Nat) : hitL a ≤ a.length := by
  induction a with
  | nil => simp [hitL]
  | cons x a ih =>
    rw [hitL, List.length_cons]
    split
    · split <;> omega
    · omega
namespace Mc
def fst (m : Mc) (q : Nat) (l : List Nat) : Nat := hitF (m.hits q l)
def lst (m : Mc) (q : Nat) (l : List Nat) : Nat := hitL (m.hits q l)
variable {m : Mc}
theorem fst_zero (q : Nat) (l : List Nat) : m.fst q l = 0 ↔ m.sum q l = 0 := by rw [fst, hitF_zero, hits_sum]
theorem lst_zero (q : Nat) (l : List Nat) : m.lst q l = 0 ↔ m.sum q l = 0 := by rw [lst, hitL_zero, hits_sum]
theorem fst_le (q : Nat) (l : List Nat) : m.fst q l ≤ l.length := by have := hitF_le (m.hits q l); rwa [hits_len] at this
theorem lst_le (q : Nat) (l : List Nat) : m.lst q l ≤ l.length := by have := hitL_le (m.hits q l); rwa [hits_len] at this
theorem fst_append (q : Nat) (a b : List Nat) : m.fst q (a ++ b) = if m.sum q a = 0 then (if m.sum (m.ends q a) b = 0 then 0 else a.length + m.fst (m.ends q a) b) else m.fst q a := by
  have h1 := fst_zero (m := m) q a
  have h2 := fst_zero (m := m) (m.ends q a) b
  unfold fst at *
  rw [hits_append, hitF_append, hits_len]
  split <;> split <;> simp_all
theorem lst_append (q : Nat) (a b : List Nat) : m.lst q (a ++ b) = if m.sum (m.ends q a) b = 0 then m.lst q a else a.length + m.lst (m.ends q a) b := by
  have h2 := lst_zero (m := m) (m.ends q a) b
  unfold lst at *
  rw [hits_append, hitL_append, hits_len]
  split <;> simp_all
theorem sum_rep_zero {q k : Nat} {l : List Nat} (h : ∀ c, c < k → m.sum (itr (fun q => m.ends q l) c q) l = 0) : m.sum q (rep k l) = 0 := by
  induction k with
  | zero => rw [rep_zero]; rfl
  | succ k ih => rw [rep_add, rep_one, sum_append, ih fun c hc => h c (by omega), ends_rep, h k (by omega)]
theorem sum_rep_ge {q k c : Nat} {l : List Nat} (hc : c < k) : m.sum (itr (fun q => m.ends q l) c q) l ≤ m.sum q (rep k l) := by
  obtain ⟨d, rfl⟩ : ∃ d, k = c + (1 + d) := ⟨k - c - 1, by omega⟩
  rw [rep_add, rep_add, rep_one, sum_append, sum_append, ends_rep]
  omega
theorem fst_rep {q k c : Nat} {l : List Nat} (hc : c < k) (h0 : ∀ c', c' < c → m.sum (itr (fun q => m.ends q l) c' q) l = 0) (h1 : 0 < m.sum (itr (fun q => m.ends q l) c q) l) :
    m.fst q (rep k l) = c * l.length + m.fst (itr (fun q => m.ends q l) c q) l := by
  obtain ⟨d, rfl⟩ : ∃ d, k = c + (1 + d) := ⟨k - c - 1, by omega⟩
  rw [rep_add, rep_add, rep_one, fst_append, if_pos (sum_rep_zero h0), ends_rep, fst_append, sum_append, if_neg (by omega), if_neg (by omega), rep_len]
theorem lst_rep {q k c : Nat} {l : List Nat} (hc : c < k) (h0 : ∀ c', c < c' → c' < k → m.sum (itr (fun q => m.ends q l) c' q) l = 0) (h1 : 0 < m.sum (itr (fun q => m.ends q l) c q) l) :
    m.lst q (rep k l) = c * l.length + m.lst (itr (fun q => m.ends q l) c q) l := by
  obtain ⟨d, rfl⟩ : ∃ d, k = c + (1 + d) := ⟨k - c - 1, by omega⟩
  have hz : m.sum (m.ends (itr (fun q => m.ends q l) c q) l) (rep d l) = 0 := by
    refine sum_rep_zero fun j hj => ?_
    have := h0 (c + (1 + j)) (by omega) (by omega)
    rw [itr_add, itr_add] at this
    exact this
  rw [rep_add, rep_add, rep_one, lst_append, ends_rep, sum_append, hz, if_neg (by omega), lst_append, hz, if_pos rfl, rep_len]
end Mc
def skC (f : Nat → Nat) (h : Nat → Bool) : Nat → Nat → Nat
  | 0, _ => 0
  | k + 1, q => if h q then 0 else skC f h k (f q) + 1
section
variable {f : Nat → Nat} {h : Nat → Bool}
theorem skC_le : ∀ (k q : Nat), skC f h k q ≤ k
  | 0, _ => Nat.le_refl _
  | k + 1, q => by
    rw [skC]
    split
    · omega
    · have := skC_le k (f q); omega
theorem skC_no : ∀ (k q c : Nat), c < skC f h k q → h (itr f c q) = false
  | 0, _, _, hc => by simp [skC] at hc
  | k + 1, q, c, hc => by
    rw [skC] at hc
    split at hc
    · omega
    · rename_i hq
      cases c with
      | zero => simpa [itr] using hq
      | succ c =>
        rw [Nat.add_comm c 1, itr_add]
        exact skC_no k (f q) c (by omega)
theorem skC_yes : ∀ (k q : Nat), skC f h k q < k → h (itr f (skC f h k q) q) = true
  | 0, _, hc => by omega
  | k + 1, q, hc => by
    by_cases hq : h q = true
    · simp only [skC, hq, if_true] at hc ⊢
      simpa [itr] using hq
    · simp only [skC, hq, if_false] at hc ⊢
      rw [if_neg (by simp), Nat.add_comm _ 1, itr_add]
      rw [if_neg (by simp)] at hc
      exact skC_yes k (f q) (by omega)
theorem skC_eq {k q c : Nat} (hc : c < k) (h0 : ∀ c', c' < c → h (itr f c' q) = false) (h1 : h (itr f c q) = true) : skC f h k q = c := by
  have a := skC_no (f := f) (h := h) k q
  have b := skC_yes (f := f) (h := h) k q
  rcases Nat.lt_trichotomy (skC f h k q) c with hlt | he | hgt
  · have := h0 _ hlt
    rw [b (by omega)] at this
    cases this
  · exact he
  · have := a c hgt
    rw [h1] at this
    cases this
theorem skC_none {k q : Nat} (h0 : ∀ c, c < k → h (itr f c q) = false) : skC f h k q = k := by
  have b := skC_yes (f := f) (h := h) k q
  have hle := skC_le (f := f) (h := h) k q
  rcases Nat.lt_or_ge (skC f h k q) k with hlt | hge
  · have := h0 _ hlt
    rw [b hlt] at this
    cases this
  · omega
end
theorem Orb.none {f : Nat → Nat} {q times tail : Nat} {xs : List Nat} {h : Nat → Bool} (o : Orb f q times xs tail) (h0 : ∀ c, c < xs.length → h (itr f c q) = false) : ∀ c, c < times → h (itr f c q) = false := fun c hc => by
  rcases Nat.lt_or_ge c xs.length with hl | hl
  · exact h0 c hl
  · obtain ⟨h1, h2, h3⟩ := o.at_high (by omega) (by omega : c ≤ times)
    have hj := getElem_len h3
    have := o.at_low hj
    rw [h3] at this
    injection this with this
    rw [this]
    exact h0 _ hj
theorem itr_rest {f : Nat → Nat} {q k n times : Nat} (hk : k < n) (he : itr f n q = itr f k q) (ht : n ≤ times) : itr f (n + (times - n) % (n - k)) q = itr f times q := by
  have h1 : itr f (k + (n - k)) q = itr f k q := by rw [show k + (n - k) = n by omega]; exact he
  rw [itr_mod h1 (c := n + (times - n) % (n - k)) (by omega), itr_mod h1 (c := times) (by omega)]
  congr 2
  rw [show n + (times - n) % (n - k) - k = (times - n) % (n - k) + (n - k) by omega, Nat.add_mod_right, Nat.mod_mod, show times - k = (times - n) + (n - k) by omega, Nat.add_mod_right]
end Go.Proofs.Ytijnhpaafhcndaa
end
section
namespace Go.Proofs.Ytijnhpaafhcndaa
open Go.RowKit Go.Maps
attribute [local go_sem] InGr
set_option maxHeartbeats 4000000
set_option maxRecDepth 100000
set_option linter.unusedSimpArgs false
set_option linter.unusedVariables false
def Sto.stp (S : Sto) (mc : Mc) (bk : Bool) (id : Nat) : Nat → Nat := fun q => mc.ends q (S.dtx bk id)
def Sto.hit (S : Sto) (mc : Mc) (bk : Bool) (id : Nat) : Nat → Bool := fun q => decide (0 < mc.sum q (S.dtx bk id))
theorem stp_lt {S : Sto} {mc : Mc} {c : Nat} (ok : mc.Ok c) (hS : S.Ok) (bk : Bool) {id : Nat} (hid : id ≤ S.list.length) : ∀ q, q < mc.n → S.stp mc bk id q < mc.n := fun q hq => ok.ends_lt hq (dtx_lt hS bk hid)
theorem TK.mok {S : Sto} {p s : Nat} {mc : Mc} {bk : Bool} {T : Tab} (h : TK S p s mc bk T) : ∃ c, mc.Ok c := by
  obtain ⟨c, ok⟩ := h.ok.ok
  exact ⟨c, h.mc ▸ ok⟩
def SkRel (S : Sto) (p s : Nat) (mc : Mc) (bk : Bool) (id q0 times b10 : Nat) (M : List Nat) (w : World) (k : Nat) (v2 v11 : Value) (wr : World) : Prop :=
  ∃ T xs sn, v2 = .int .i64 (itr (S.stp mc bk id) xs.length q0 : Nat) ∧ v11 = .int .i64 (xs.length : Nat) ∧ xs.length ≤ times ∧ k = sn.count 0 ∧ Way (S.stp mc bk id) q0 xs sn ∧ (∀ c, c < xs.length → S.hit mc bk id (itr (S.stp mc bk id) c q0) = false) ∧ TK S p s mc bk T ∧
    St w M [tabA T, rowsA enc16 153 1 (.slice (some ⟨b10, 0, none⟩) 256 256) sn] wr
def RsRel (S : Sto) (p s : Nat) (mc : Mc) (bk : Bool) (id q0 n r0 : Nat) (M : List Nat) (w : World) (v2 v13 : Value) (wr : World) : Prop :=
  ∃ T r, v13 = .int .i64 (r : Nat) ∧ r ≤ r0 ∧ v2 = .int .i64 (itr (S.stp mc bk id) (n + (r0 - r)) q0 : Nat) ∧ TK S p s mc bk T ∧ St w M [tabA T] wr
theorem skip_t {S : Sto} {lv : Value} {m p s : Nat} {mc : Mc} {bk : Bool} {id q times : Nat} (hS : S.Ok) (hid : id ≤ S.list.length) (hq : q < mc.n) (ht : times ≤ 1152921504606846976) :
    TC S lv m p s mc bk 43 #[.pointer (some ⟨p, 0, none⟩), .int .i64 id, .int .i64 q, .int .i64 times] (.tuple #[.int .i64 (skC (S.stp mc bk id) (S.hit mc bk id) times q : Nat), .int .i64 (itr (S.stp mc bk id) (skC (S.stp mc bk id) (S.hit mc bk id) times q) q : Nat)]) := by
  refine TC.mk fun T w M HT H HK => ?_
  obtain ⟨c, ok⟩ := HT.out.mok
  have hn256 := ok.n256
  have HLT : Hid (∀ k, itr (S.stp mc bk id) k q < mc.n) := Lib.hid fun k => itr_lt (stp_lt ok hS bk hid) hq
  have HE : Hid (∀ q, q < mc.n → TC S lv m p s mc bk 46 #[.pointer (some ⟨p, 0, none⟩), .int .i64 id, .int .i64 q] (.int .i64 (S.stp mc bk id q : Nat))) := Lib.hid fun q hq => send_t hS hid hq
  have HH : Hid (∀ q, q < mc.n → TC S lv m p s mc bk 74 #[.pointer (some ⟨p, 0, none⟩), .int .i64 id, .int .i64 q] (.bool (S.hit mc bk id q))) := Lib.hid fun q hq => hit_t hS hid hq
  clear ok hS hid
  go_enter Try.func43, Try.ntmps43
  go_wp2_with (first | refine sL ?_ | (refine sA ?_; clear H; intro b10 _ H))
  replace H := H.pick (A := blk b10 (.cells (Array.replicate 256 (.int .i16 0)) 153)) pk
  replace H := H.conv (A' := rowsA enc16 153 1 (.slice (some ⟨b10, 0, none⟩) 256 256) (List.replicate 256 0)) (by rw [rowsA_fp', blk_fp]; rfl) fun hb => by
    rw [blk_ho] at hb
    have := rowsA_of_blk (enc := enc16) (k := 1) (xs := List.replicate 256 0) hb (by rw [List.length_replicate]; simp [maxLen]) (by rw [flat_zeros]; simp) enc16_len
    rwa [List.length_replicate] at this
  go_loopg [2, 11] 256 (fun k v2 v11 wr => SkRel S p s mc bk id q times b10 M w k v2 v11 wr)
  case atStart => exact ⟨T, [], List.replicate 256 0, rfl, rfl, Nat.zero_le _, by rw [List.count_replicate_self], Way.start _ _, by simp, HT.out, (H.pick2 (A := tabA T) (B := rowsA enc16 153 1 (.slice (some ⟨b10, 0, none⟩) 256 256) (List.replicate 256 0)) pk pk).onlyTwo⟩
  case round =>
    clear H HT
    obtain ⟨T, xs, sn, rfl, rfl, hle, hk, hway, hno, hT, H⟩ := hrel
    have HT := Lib.hid hT
    have hxl := hway.len
    have hq1 := HLT.out xs.length
    have HWAY := Lib.hid hway
    have HK0 := Lib.hid hk
    have HQ := Lib.hid hq1
    have HNO := Lib.hid hno
    have HHQ := Lib.hid (HH.out _ hq1)
    have HEQ := Lib.hid (HE.out _ hq1)
    clear hway hT hk hno HH
    by_cases hlt : xs.length < times
    · cases hh : S.hit mc bk id (itr (S.stp mc bk id) xs.length q) with
      | true =>
        have hsk : skC (S.stp mc bk id) (S.hit mc bk id) times q = xs.length := skC_eq hlt HNO.out hh
        rw [hh] at HHQ
        have HSK := Lib.hid hsk
        generalize hqq : itr (S.stp mc bk id) xs.length q = q1 at *
        have HQQ := Lib.hid hqq
        clear hsk hh hqq
        go_wp2_with (first | refine sL ?_ | (refine sS ?_; clear H; intro _ H) | (refine sA ?_; clear H; intro _ _ H) | (go_at_call 74; with_reducible refine TC.use (HHQ.out) HT.out H pk ts ?_; clear H; intro T' _ HT H))
        go_ret2
        exact ⟨T', by rw [HSK.out, HQQ.out]; rfl, HT.out, (H.pick (A := tabA T') pk).onlyHead⟩
      | false =>
        rw [hh] at HHQ
        generalize hqq : itr (S.stp mc bk id) xs.length q = q1 at *
        have HQQ := Lib.hid hqq
        have HHF := Lib.hid hh
        have hstp : S.stp mc bk id q1 = itr (S.stp mc bk id) (xs.length + 1) q := by rw [itr_succ, hqq]
        rw [hstp] at HEQ
        clear hqq hh hstp
        obtain ⟨v, hv⟩ : ∃ v, sn[q1]? = some v := ⟨_, List.getElem?_eq_getElem (by rw [HWAY.out.size]; omega)⟩
        have HV := Lib.hid hv
        clear hv
        rcases Nat.eq_zero_or_pos v with h0 | h0
        · subst h0
          go_wp2_with (first | refine sL ?_ | (refine sS ?_; clear H; intro _ H) | (refine sA ?_; clear H; intro _ _ H) | (go_at_call 74; with_reducible refine TC.use (HHQ.out) HT.out H pk ts ?_; clear H; intro T' _ HT H) | (go_at_call 46; with_reducible refine TC.use (HEQ.out) HT.out H pk ts ?_; clear H; intro T' _ HT H) | ((with_reducible refine isLoad ?_); refine AtLoad.cel rfl rfl rfl rfl (rowsA_cell1 (H.get (A := rowsA enc16 153 1 (.slice (some ⟨b10, 0, none⟩) 256 256) sn) pk) enc16_len HV.out rfl) ?_; simp only [Act.put, puA, puB, puC]) | ((with_reducible refine isStore ?_); refine AtStore.rowA (enc := enc16) (n := 256) (c := 256) H rfl rfl rfl rfl rfl rfl pk (xs.length + 1) (by first | rfl | (simp only [enc16]; go_num)) enc16_len ?bd ?_; (case bd => rw [HWAY.out.size]; omega); clear H; intro _ H; simp only [Act.put, puA, puB, puC]))
          obtain ⟨hw2, hc2⟩ := HWAY.out.next HQQ.out.symm (by omega) HV.out
          have hl1 : (xs ++ [q1]).length = xs.length + 1 := by simp
          go_roundg ((sn.set q1 (xs.length + 1)).count 0)
          case measure => rw [HK0.out]; exact hc2
          case rel =>
            refine ⟨T', xs ++ [q1], sn.set q1 (xs.length + 1), by rw [hl1], by rw [hl1]; go_num, by rw [hl1]; omega, rfl, hw2, fun c hc => ?_, HT.out, (H.pick2 (A := tabA T') (B := rowsA enc16 153 1 (.slice (some ⟨b10, 0, none⟩) 256 256) (sn.set q1 (xs.length + 1))) pk pk).onlyTwo⟩
            rw [hl1] at hc
            rcases Nat.lt_or_ge c xs.length with h | h
            · exact HNO.out c h
            · obtain rfl : c = xs.length := by omega
              rw [HQQ.out]
              exact HHF.out
        · obtain ⟨v', rfl⟩ : ∃ v', v = v' + 1 := ⟨v - 1, by omega⟩
          have horb : Orb (S.stp mc bk id) q times xs v' := HWAY.out.met HQQ.out.symm HV.out
          have hsk : skC (S.stp mc bk id) (S.hit mc bk id) times q = times := skC_none (horb.none HNO.out)
          have HSK := Lib.hid hsk
          have hk2 : v' < xs.length ∧ itr (S.stp mc bk id) xs.length q = itr (S.stp mc bk id) v' q := by
            rcases horb.ends with h | h
            · omega
            · exact h
          have HRS := Lib.hid (itr_rest hk2.1 hk2.2 hle)
          have hk3 := hk2.1
          have i1 : (times : Int) - xs.length = ((times - xs.length : Nat) : Int) := by omega
          have i2 : (xs.length : Int) - v' = ((xs.length - v' : Nat) : Int) := by omega
          have i3 : (xs.length : Int) + 1 - ((v' : Int) + 1) = ((xs.length - v' : Nat) : Int) := by omega
          have hz : ((xs.length - v' : Nat) : Int) ≠ 0 := by omega
          have i4 : ((times - xs.length : Nat) : Int).tmod ((xs.length - v' : Nat) : Int) = (((times - xs.length) % (xs.length - v') : Nat) : Int) := by simp [Int.tmod]
          have hrb := Nat.mod_le (times - xs.length) (xs.length - v')
          have hb1 : times - xs.length ≤ 1152921504606846976 := by omega
          have hb2 : xs.length - v' ≤ 256 := by omega
          generalize (times - xs.length) % (xs.length - v') = r0 at *
          generalize xs.length - v' = d0 at *
          generalize times - xs.length = e0 at *
          clear horb hk2 hsk HEQ
          go_wp2_with (first | refine sL ?_ | (refine sS ?_; clear H; intro _ H) | (refine sA ?_; clear H; intro _ _ H) | (go_at_call 74; with_reducible refine TC.use (HHQ.out) HT.out H pk ts ?_; clear H; intro T' _ HT H) | ((with_reducible refine isLoad ?_); refine AtLoad.cel rfl rfl rfl rfl (rowsA_cell1 (H.get (A := rowsA enc16 153 1 (.slice (some ⟨b10, 0, none⟩) 256 256) sn) pk) enc16_len HV.out rfl) ?_; simp only [Act.put, puA, puB, puC]))
          go_loopw [2, 13] (fun v2 v13 wr => RsRel S p s mc bk id q xs.length r0 M w v2 v13 wr) (fun _ v13 _ => (intOf v13).toNat)
          case atStart => exact ⟨T', r0, rfl, Nat.le_refl _, by rw [Nat.sub_self, Nat.add_zero, HQQ.out], HT.out, (H.pick (A := tabA T') pk).onlyHead⟩
          case round =>
            clear H HT
            obtain ⟨T, r, rfl, hr, rfl, hT, H⟩ := hrel
            have HT := Lib.hid hT
            clear hT
            rcases Nat.eq_zero_or_pos r with hr0 | hr0
            · subst hr0
              have hfin : itr (S.stp mc bk id) (xs.length + (r0 - 0)) q = itr (S.stp mc bk id) times q := HRS.out
              rw [hfin]
              generalize hqf : itr (S.stp mc bk id) times q = qf at *
              have HQF := Lib.hid hqf
              clear hqf hfin
              go_wp2_with (first | refine sL ?_ | (refine sS ?_; clear H; intro _ H) | (refine sA ?_; clear H; intro _ _ H))
              go_ret2
              exact ⟨T, by rw [HSK.out, HQF.out]; rfl, HT.out, H⟩
            · obtain ⟨r', rfl⟩ : ∃ r', r = r' + 1 := ⟨r - 1, by omega⟩
              have HEQ := Lib.hid (HE.out _ (HLT.out (xs.length + (r0 - (r' + 1)))))
              have hstp : S.stp mc bk id (itr (S.stp mc bk id) (xs.length + (r0 - (r' + 1))) q) = itr (S.stp mc bk id) (xs.length + (r0 - r')) q := by rw [show xs.length + (r0 - r') = xs.length + (r0 - (r' + 1)) + 1 by omega, itr_succ]
              rw [hstp] at HEQ
              generalize itr (S.stp mc bk id) (xs.length + (r0 - (r' + 1))) q = q2 at *
              generalize hq3 : itr (S.stp mc bk id) (xs.length + (r0 - r')) q = q3 at *
              have HQ3 := Lib.hid hq3
              clear hstp hq3
              go_wp2_with (first | refine sL ?_ | (refine sS ?_; clear H; intro _ H) | (refine sA ?_; clear H; intro _ _ H) | (go_at_call 46; with_reducible refine TC.use (HEQ.out) HT.out H pk ts ?_; clear H; intro T' _ HT H))
              have hrl : RsRel S p s mc bk id q xs.length r0 M w (.int .i64 q3) (.int .i64 r') _ := ⟨T', r', rfl, by omega, by rw [HQ3.out], HT.out, H⟩
              first | exact ⟨hrl, by simp [intOf]⟩ | (refine ⟨?_, by simp [intOf]⟩; (repeat apply Exists.intro); exact ⟨hrl, rfl⟩)
    · have hsk : skC (S.stp mc bk id) (S.hit mc bk id) times q = times := skC_none fun c hc => HNO.out c (by omega)
      have hxt : xs.length = times := by omega
      have HSK := Lib.hid hsk
      rw [hxt]
      generalize hqq : itr (S.stp mc bk id) times q = q1 at *
      have HQQ := Lib.hid hqq
      clear hsk hxt hqq
      go_wp2_with (first | refine sL ?_ | (refine sS ?_; clear H; intro _ H) | (refine sA ?_; clear H; intro _ _ H))
      go_ret2
      exact ⟨T, by rw [HSK.out, HQQ.out]; rfl, HT.out, (H.pick (A := tabA T) pk).onlyHead⟩
end Go.Proofs.Ytijnhpaafhcndaa
end
section
namespace Go.Proofs.Ytijnhpaafhcndaa
open Go.RowKit Go.Maps
attribute [local go_sem] InGr
set_option maxHeartbeats 4000000
set_option maxRecDepth 100000
set_option linter.unusedSimpArgs false
set_option linter.unusedVariables false
section
variable {S : Sto} {lv : Value} {m p s : Nat} {mc : Mc} {bk : Bool}
theorem rule_t {i : Nat} {x : En} {kd lt lf rt tm : Nat} (hx : S.list[i]? = some x) (he : ruleL x.r = [.int .i64 (kd : Nat), .int .u8 (lt : Nat), .int .i64 (lf : Nat), .int .i64 (rt : Nat), .int .i64 (tm : Nat)]) : TQ S lv m p s mc bk 45 #[.pointer (some ⟨s, 0, none⟩), .int .i64 ((i : Int) + 1)] (.tuple #[.agg #[.int .i64 (kd : Nat), .int .u8 (lt : Nat), .int .i64 (lf : Nat), .int .i64 (rt : Nat), .int .i64 (tm : Nat)], .nilIface]) := fun T w hT h1 h2 => by
  have := rule_c hx ((i : Int) + 1) rfl w h2
  have e : (.agg #[.int .i64 x.r.kind, .int .u8 x.r.letter, .int .i64 x.r.left, .int .i64 x.r.right, .int .i64 x.r.times] : Value) = .agg #[.int .i64 (kd : Nat), .int .u8 (lt : Nat), .int .i64 (lf : Nat), .int .i64 (rt : Nat), .int .i64 (tm : Nat)] := congrArg (fun l => Value.agg l.toArray) he
  rw [← e]
  exact this
theorem hit_s {i q : Nat} (hS : S.Ok) (hi : i < S.list.length) (hq : q < mc.n) : TC S lv m p s mc bk 74 #[.pointer (some ⟨p, 0, none⟩), .int .i64 ((i : Int) + 1), .int .i64 q] (.bool (decide (0 < mc.sum q (S.dtx bk (i + 1))))) := hit_t hS hi hq
theorem send_s {i q : Nat} (hS : S.Ok) (hi : i < S.list.length) (hq : q < mc.n) : TC S lv m p s mc bk 46 #[.pointer (some ⟨p, 0, none⟩), .int .i64 ((i : Int) + 1), .int .i64 q] (.int .i64 (mc.ends q (S.dtx bk (i + 1)) : Nat)) := send_t hS hi hq
theorem ssize_s {i : Nat} (hS : S.Ok) (hi : i < S.list.length) : TQ S lv m p s mc bk 36 #[.pointer (some ⟨p, 0, none⟩), .int .i64 ((i : Int) + 1)] (.int .i64 ((S.txt (i + 1)).length : Nat)) := ssize_t hS (id := i + 1) hi
theorem skip_s {i q times : Nat} (hS : S.Ok) (hi : i < S.list.length) (hq : q < mc.n) (ht : times ≤ 1152921504606846976) :
    TC S lv m p s mc bk 43 #[.pointer (some ⟨p, 0, none⟩), .int .i64 ((i : Int) + 1), .int .i64 q, .int .i64 times] (.tuple #[.int .i64 (skC (S.stp mc bk (i + 1)) (S.hit mc bk (i + 1)) times q : Nat), .int .i64 (itr (S.stp mc bk (i + 1)) (skC (S.stp mc bk (i + 1)) (S.hit mc bk (i + 1)) times q) q : Nat)]) := skip_t hS hi hq ht
theorem child_f {l r : Nat} : TQ S lv m p s mc false 102 #[.pointer (some ⟨p, 0, none⟩), .agg #[.int .i64 2, .int .u8 0, .int .i64 ((l : Int) + 1), .int .i64 ((r : Int) + 1), .int .i64 0]] (.tuple #[.int .i64 ((l : Int) + 1), .int .i64 ((r : Int) + 1)]) := fun T w hT h1 h2 => by
  have H := St.nil w []
  have HK := Ks.two h1 h2
  have HB : Hid (∀ w, (tabA T).ho w → Calls Try.prog 65 #[.pointer (some ⟨p, 0, none⟩)] w fun e w' => e = .returned (.bool false) ∧ w' = w) := Lib.hid fun w h1 => by
    have := back_c hT.ok w h1
    rw [hT.p, hT.bk] at this
    exact this
  go_enter Try.func102, Try.ntmps102
  go_wp2_with (first | refine sL ?_ | (refine sB ?_; clear H; intro b3 _ H) | (go_at_call 65; with_reducible refine same (HB.out _ (H.known HK pk)) ?_))
  refine wp_region_h H 6 [] [] (by kernel_rfl) (by kernel_rfl) ?_
  apply Exists.intro
  refine ⟨fun w1 hw1 HX => ?_, fun bs wr Hr => ?_⟩
  · refine sG ?_
    repeat (first | refine sQ ?_ | go_big_quiet_step (fail))
    exact wpQuiet_nil rfl
  clear H
  have H := Hr
  clear Hr
  replace H := sH H; refine sT ?_
  go_wp2_with (first | refine sL ?_ | (refine sB ?_; clear H; intro _ _ H))
  go_ret2
  exact ⟨rfl, H.nix⟩
theorem child_t {l r : Nat} : TQ S lv m p s mc true 102 #[.pointer (some ⟨p, 0, none⟩), .agg #[.int .i64 2, .int .u8 0, .int .i64 ((l : Int) + 1), .int .i64 ((r : Int) + 1), .int .i64 0]] (.tuple #[.int .i64 ((r : Int) + 1), .int .i64 ((l : Int) + 1)]) := fun T w hT h1 h2 => by
  have H := St.nil w []
  have HK := Ks.two h1 h2
  have HB : Hid (∀ w, (tabA T).ho w → Calls Try.prog 65 #[.pointer (some ⟨p, 0, none⟩)] w fun e w' => e = .returned (.bool true) ∧ w' = w) := Lib.hid fun w h1 => by
    have := back_c hT.ok w h1
    rw [hT.p, hT.bk] at this
    exact this
  go_enter Try.func102, Try.ntmps102
  go_wp2_with (first | refine sL ?_ | (refine sB ?_; clear H; intro b3 _ H) | (go_at_call 65; with_reducible refine same (HB.out _ (H.known HK pk)) ?_))
  refine wp_region_h H 6 [] [] (by kernel_rfl) (by kernel_rfl) ?_
  apply Exists.intro
  refine ⟨fun w1 hw1 HX => ?_, fun bs wr Hr => ?_⟩
  · refine sG ?_
    repeat (first | refine sQ ?_ | go_big_quiet_step (fail))
    exact wpQuiet_nil rfl
  clear H
  have H := Hr
  clear Hr
  replace H := sH H; refine sT ?_
  go_wp2_with (first | refine sL ?_ | (refine sB ?_; clear H; intro _ _ H))
  go_ret2
  exact ⟨rfl, H.nix⟩
end
inductive DCase (S : Sto) (bk : Bool) (i : Nat) : Nat → Nat → Nat → Nat → Nat → Prop
  | letter (b : Nat) (hb : b < 256) (h : S.dtx bk (i + 1) = [b]) : DCase S bk i 1 b 0 0 0
  | pair (l r a b : Nat) (hl : l + 1 ≤ S.list.length) (hr : r + 1 ≤ S.list.length) (ha : a < i) (hb : b < i) (hv : (bk = false ∧ a = l ∧ b = r) ∨ (bk = true ∧ a = r ∧ b = l)) (h : S.dtx bk (i + 1) = S.dtx bk (a + 1) ++ S.dtx bk (b + 1)) : DCase S bk i 2 0 (l + 1) (r + 1) 0
  | power (l k : Nat) (hl : l < i) (hk : 2 ≤ k) (hm : k ≤ 1152921504606846976) (h : S.dtx bk (i + 1) = rep k (S.dtx bk (l + 1))) : DCase S bk i 3 0 (l + 1) 0 k
theorem dcase {S : Sto} (hS : S.Ok) (bk : Bool) {i : Nat} (hi : i < S.list.length) : ∃ x kd lt lf rt tm, S.list[i]? = some x ∧ ruleL x.r = [.int .i64 (kd : Nat), .int .u8 (lt : Nat), .int .i64 (lf : Nat), .int .i64 (rt : Nat), .int .i64 (tm : Nat)] ∧ DCase S bk i kd lt lf rt tm := by
  obtain ⟨x, hx⟩ : ∃ x, S.list[i]? = some x := ⟨S.list[i], by simp⟩
  have hent := hS.ents i x hx
  cases hent with
  | letter b hb => exact ⟨_, 1, b, 0, 0, 0, hx, rfl, .letter b hb (by unfold Sto.dtx; rw [S.txt_letter hx, dirT_one])⟩
  | pair l r y y2 hl1 hr1 hy1 hy2 hle =>
    refine ⟨_, 2, 0, l + 1, r + 1, 0, hx, rfl, ?_⟩
    cases bk with
    | false => exact .pair l r l r (by omega) (by omega) hl1 hr1 (.inl ⟨rfl, rfl, rfl⟩) (by unfold Sto.dtx; rw [S.txt_pair hl1 hr1 hx]; rfl)
    | true => exact .pair l r r l (by omega) (by omega) hr1 hl1 (.inr ⟨rfl, rfl, rfl⟩) (by unfold Sto.dtx dirT; rw [S.txt_pair hl1 hr1 hx]; simp)
  | power l k y hl1 hy1 hk hle => exact ⟨_, 3, 0, l + 1, 0, k, hx, rfl, .power l k hl1 hk (power_le hS (tid := l + 1) hx) (by unfold Sto.dtx; rw [S.txt_power hl1 hx, dirT_rep])⟩
section
variable {S : Sto} {lv : Value} {m p s : Nat} {mc : Mc} {bk : Bool}
theorem child_any {l r a b : Nat} (hv : (bk = false ∧ a = l ∧ b = r) ∨ (bk = true ∧ a = r ∧ b = l)) : TQ S lv m p s mc bk 102 #[.pointer (some ⟨p, 0, none⟩), .agg #[.int .i64 2, .int .u8 0, .int .i64 ((l : Int) + 1), .int .i64 ((r : Int) + 1), .int .i64 0]] (.tuple #[.int .i64 ((a : Int) + 1), .int .i64 ((b : Int) + 1)]) := by
  rcases hv with ⟨rfl, rfl, rfl⟩ | ⟨rfl, rfl, rfl⟩
  · exact child_f
  · exact child_t
end
def FiRel (S : Sto) (p s : Nat) (mc : Mc) (bk : Bool) (res i0 : Nat) (M : List Nat) (w : World) (v1 v2 v7 : Value) (wr : World) : Prop :=
  ∃ (T : Tab) (i q read : Nat), v1 = .int .i64 ((i : Int) + 1) ∧ v2 = .int .i64 (q : Nat) ∧ v7 = .int .i64 (read : Nat) ∧ i ≤ i0 ∧ q < mc.n ∧ 0 < mc.sum q (S.dtx bk (i + 1)) ∧ read + mc.fst q (S.dtx bk (i + 1)) = res ∧ TK S p s mc bk T ∧ St w M [tabA T] wr
theorem first_t {S : Sto} {lv : Value} {m p s : Nat} {mc : Mc} {bk : Bool} {i q : Nat} (hS : S.Ok) (hid : i < S.list.length) (hq : q < mc.n) (hs : 0 < mc.sum q (S.dtx bk (i + 1))) :
    TC S lv m p s mc bk 76 #[.pointer (some ⟨p, 0, none⟩), .int .i64 ((i : Int) + 1), .int .i64 q] (.int .i64 (mc.fst q (S.dtx bk (i + 1)) : Nat)) := by
  refine TC.mk fun T w M HT H HK => ?_
  obtain ⟨c, ok⟩ := HT.out.mok
  have HC : Hid (∀ i, i < S.list.length → ∃ x kd lt lf rt tm, S.list[i]? = some x ∧ ruleL x.r = [.int .i64 (kd : Nat), .int .u8 (lt : Nat), .int .i64 (lf : Nat), .int .i64 (rt : Nat), .int .i64 (tm : Nat)] ∧ DCase S bk i kd lt lf rt tm) := Lib.hid fun i hi => dcase hS bk hi
  have HOK := Lib.hid ok
  have HS := Lib.hid hS
  have hres : mc.fst q (S.dtx bk (i + 1)) ≤ 1152921504606846976 := by
    have h1 := mc.fst_le q (S.dtx bk (i + 1))
    rw [dtx_len] at h1
    have := txt_max hS (i := i + 1) (by omega)
    omega
  have hlen : S.list.length ≤ 1048576 := by have := hS.len; have := hS.most; omega
  clear ok hS
  go_enter Try.func76, Try.ntmps76
  go_wp2_with (first | refine sL ?_ | (refine sS ?_; clear H; intro _ H) | (refine sA ?_; clear H; intro _ _ H))
  go_loopw [1, 2, 7] (fun v1 v2 v7 wr => FiRel S p s mc bk (mc.fst q (S.dtx bk (i + 1))) i M w v1 v2 v7 wr) (fun v1 _ _ _ => (intOf v1).toNat)
  case atStart => exact ⟨T, i, q, 0, rfl, rfl, rfl, Nat.le_refl _, hq, hs, by omega, HT.out, H⟩
  case round =>
    clear H HT hs hq
    generalize mc.fst q (S.dtx bk (i + 1)) = res at *
    obtain ⟨T, j, q1, read, rfl, rfl, rfl, hj, hq1, hs1, hsum, hT, H⟩ := hrel
    have HT := Lib.hid hT
    obtain ⟨x, kd, lt, lf, rt, tm, hx, he, hcase⟩ := HC.out j (by omega)
    have HST := Lib.hid (store_t (S := S) (lv := lv) (m := m) (p := p) (s := s) (mc := mc) (bk := bk))
    have HRU := Lib.hid (rule_t (lv := lv) (m := m) (p := p) (s := s) (mc := mc) (bk := bk) hx he)
    clear hT hx he
    cases hcase with
    | letter b hb hd =>
      rw [hd] at hs1 hsum
      have h1 : mc.fst q1 [lt] = 1 := by
        have a := (mc.fst_zero q1 [lt])
        have b := mc.fst_le q1 [lt]
        simp at b
        omega
      have hrd : read + 1 = res := by omega
      have HRD := Lib.hid hrd
      clear hsum h1 hs1 hd HC
      go_wp2_with (first | refine sL ?_ | (refine sS ?_; clear H; intro _ H) | (refine sA ?_; clear H; intro _ _ H) | (go_at_call 44; with_reducible refine TQ.use (HST.out) HT.out H pk ts ?_; clear H; intro _ H) | (go_at_call 45; with_reducible refine TQ.use (HRU.out) HT.out H pk ts ?_; clear H; intro _ H))
      go_ret
      exact ⟨T, by rw [← HRD.out]; rfl, HT.out, (H.pick (A := tabA T) pk).onlyHead⟩
    | pair l r a b hl hr ha hb hv hd =>
      rw [hd] at hs1 hsum
      have hfa := mc.fst_append q1 (S.dtx bk (a + 1)) (S.dtx bk (b + 1))
      have hsa := mc.sum_append q1 (S.dtx bk (a + 1)) (S.dtx bk (b + 1))
      have hlt := HOK.out.ends_lt hq1 (dtx_lt HS.out bk (id := a + 1) (by omega))
      have HCH := Lib.hid (child_any (S := S) (lv := lv) (m := m) (p := p) (s := s) (mc := mc) hv)
      have HHI := Lib.hid (hit_s (lv := lv) (m := m) (p := p) (s := s) (bk := bk) HS.out (i := a) (by omega) hq1)
      have HEN := Lib.hid (send_s (lv := lv) (m := m) (p := p) (s := s) (bk := bk) HS.out (i := a) (by omega) hq1)
      have HSZ := Lib.hid (ssize_s (lv := lv) (m := m) (p := p) (s := s) (mc := mc) (bk := bk) HS.out (i := a) (by omega))
      have hla := dtx_len S bk (a + 1)
      by_cases hh : 0 < mc.sum q1 (S.dtx bk (a + 1))
      · rw [if_neg (by omega)] at hfa
        rw [decide_eq_true hh] at HHI
        have HF := Lib.hid (And.intro hh (hfa ▸ hsum))
        clear hv hd hfa hsa hlt HEN HSZ hh hs1 hsum hla
        go_wp2_with (first | refine sL ?_ | (refine sS ?_; clear H; intro _ H) | (refine sA ?_; clear H; intro _ _ H) | (go_at_call 44; with_reducible refine TQ.use (HST.out) HT.out H pk ts ?_; clear H; intro _ H) | (go_at_call 45; with_reducible refine TQ.use (HRU.out) HT.out H pk ts ?_; clear H; intro _ H) | (go_at_call 102; with_reducible refine TQ.use (HCH.out) HT.out H pk ts ?_; clear H; intro _ H) | (go_at_call 74; with_reducible refine TC.use (HHI.out) HT.out H pk ts ?_; clear H; intro T' _ HT H))
        have hrl : FiRel S p s mc bk res i M w (.int .i64 ((a : Int) + 1)) (.int .i64 q1) (.int .i64 read) _ := ⟨T', a, q1, read, rfl, rfl, rfl, by omega, hq1, HF.out.1, HF.out.2, HT.out, (H.pick (A := tabA T') pk).onlyHead⟩
        first | exact ⟨hrl, by simp [intOf]; omega⟩ | (refine ⟨?_, by simp [intOf]; omega⟩; (repeat apply Exists.intro); exact ⟨hrl, rfl⟩)
      · rw [if_pos (by omega), if_neg (by omega)] at hfa
        rw [decide_eq_false hh] at HHI
        generalize mc.ends q1 (S.dtx bk (a + 1)) = q2 at *
        rw [hla] at hfa
        generalize hln : (S.txt (a + 1)).length = ln at *
        have hfb : 0 < mc.sum q2 (S.dtx bk (b + 1)) ∧ read + ln + mc.fst q2 (S.dtx bk (b + 1)) = res := by omega
        have HF := Lib.hid hfb
        have hlb : read + ln ≤ 1152921504606846976 := by omega
        clear hv hd hfa hsa hh hs1 hsum hla hln hfb
        go_wp2_with (first | refine sL ?_ | (refine sS ?_; clear H; intro _ H) | (refine sA ?_; clear H; intro _ _ H) | (go_at_call 44; with_reducible refine TQ.use (HST.out) HT.out H pk ts ?_; clear H; intro _ H) | (go_at_call 45; with_reducible refine TQ.use (HRU.out) HT.out H pk ts ?_; clear H; intro _ H) | (go_at_call 102; with_reducible refine TQ.use (HCH.out) HT.out H pk ts ?_; clear H; intro _ H) | (go_at_call 74; with_reducible refine TC.use (HHI.out) HT.out H pk ts ?_; clear H; intro T' _ HT H) | (go_at_call 36; with_reducible refine TQ.use (HSZ.out) HT.out H pk ts ?_; clear H; intro _ H) | (go_at_call 46; with_reducible refine TC.use (HEN.out) HT.out H pk ts ?_; clear H; intro T' _ HT H))
        have hrl : FiRel S p s mc bk res i M w (.int .i64 ((b : Int) + 1)) (.int .i64 q2) (.int .i64 ((read : Int) + ln)) _ := ⟨T', b, q2, read + ln, rfl, rfl, by go_num, by omega, hlt, HF.out.1, HF.out.2, HT.out, (H.pick (A := tabA T') pk).onlyHead⟩
        first | exact ⟨hrl, by simp [intOf]; omega⟩ | (refine ⟨?_, by simp [intOf]; omega⟩; (repeat apply Exists.intro); exact ⟨hrl, rfl⟩)
    | power l k hl hk hm hd =>
      rw [hd] at hs1 hsum
      have HSK := Lib.hid (skip_s (lv := lv) (m := m) (p := p) (s := s) (bk := bk) HS.out (i := l) (by omega) hq1 hm)
      have HSZ := Lib.hid (ssize_s (lv := lv) (m := m) (p := p) (s := s) (mc := mc) (bk := bk) HS.out (i := l) (by omega))
      have hle := skC_le (f := S.stp mc bk (l + 1)) (h := S.hit mc bk (l + 1)) tm q1
      have hno := skC_no (f := S.stp mc bk (l + 1)) (h := S.hit mc bk (l + 1)) tm q1
      have hye := skC_yes (f := S.stp mc bk (l + 1)) (h := S.hit mc bk (l + 1)) tm q1
      have hq2 : itr (S.stp mc bk (l + 1)) (skC (S.stp mc bk (l + 1)) (S.hit mc bk (l + 1)) tm q1) q1 < mc.n := itr_lt (stp_lt HOK.out HS.out bk (by omega)) hq1
      have hct : skC (S.stp mc bk (l + 1)) (S.hit mc bk (l + 1)) tm q1 < tm := by
        rcases Nat.lt_or_ge (skC (S.stp mc bk (l + 1)) (S.hit mc bk (l + 1)) tm q1) tm with h | h
        · exact h
        · have hz : mc.sum q1 (rep tm (S.dtx bk (l + 1))) = 0 := Mc.sum_rep_zero fun c hc => by
            have := hno c (by omega)
            unfold Sto.hit at this
            have := of_decide_eq_false this
            exact Nat.le_zero.1 (Nat.not_lt.1 this)
          omega
      have hy := of_decide_eq_true (hye hct)
      have hfr := Mc.fst_rep hct (fun c' hc' => by
        have := of_decide_eq_false (hno c' hc')
        exact Nat.le_zero.1 (Nat.not_lt.1 this)) hy
      rw [dtx_len] at hfr
      generalize skC (S.stp mc bk (l + 1)) (S.hit mc bk (l + 1)) tm q1 = c at *
      have hfr2 : mc.fst q1 (rep tm (S.dtx bk (l + 1))) = c * (S.txt (l + 1)).length + mc.fst (itr (S.stp mc bk (l + 1)) c q1) (S.dtx bk (l + 1)) := hfr
      generalize itr (S.stp mc bk (l + 1)) c q1 = q2 at *
      generalize hln : (S.txt (l + 1)).length = ln at *
      have hp : (c : Int) * (ln : Int) = ((c * ln : Nat) : Int) := (Int.natCast_mul c ln).symm
      generalize c * ln = pr at *
      have hpb : read + pr ≤ 1152921504606846976 := by omega
      have hF : 0 < mc.sum q2 (S.dtx bk (l + 1)) ∧ read + pr + mc.fst q2 (S.dtx bk (l + 1)) = res := ⟨hy, by omega⟩
      have HF := Lib.hid hF
      clear hd hs1 hsum hno hye hct hy hfr hfr2 hln hF hle
      go_wp2_with (first | refine sL ?_ | (refine sS ?_; clear H; intro _ H) | (refine sA ?_; clear H; intro _ _ H) | (go_at_call 44; with_reducible refine TQ.use (HST.out) HT.out H pk ts ?_; clear H; intro _ H) | (go_at_call 45; with_reducible refine TQ.use (HRU.out) HT.out H pk ts ?_; clear H; intro _ H) | (go_at_call 36; with_reducible refine TQ.use (HSZ.out) HT.out H pk ts ?_; clear H; intro _ H) | (go_at_call 43; with_reducible refine TC.use (HSK.out) HT.out H pk ts ?_; clear H; intro T' _ HT H))
      have hrl : FiRel S p s mc bk res i M w (.int .i64 ((l : Int) + 1)) (.int .i64 q2) (.int .i64 ((read : Int) + pr)) _ := ⟨T', l, q2, read + pr, rfl, rfl, by go_num, by omega, hq2, HF.out.1, HF.out.2, HT.out, (H.pick (A := tabA T') pk).onlyHead⟩
      first | exact ⟨hrl, by simp [intOf]; omega⟩ | (refine ⟨?_, by simp [intOf]; omega⟩; (repeat apply Exists.intro); exact ⟨hrl, rfl⟩)
end Go.Proofs.Ytijnhpaafhcndaa
end
section
namespace Go.Proofs.Ytijnhpaafhcndaa
open Go.RowKit Go.Maps
attribute [local go_sem] InGr
set_option maxHeartbeats 4000000
set_option maxRecDepth 100000
set_option linter.unusedSimpArgs false
set_option linter.unusedVariables false
def TX (X : As) (S : Sto) (lv : Value) (m p s : Nat) (mc : Mc) (bk : Bool) (f : FuncId) (args : Array Value) (v : Value) : Prop :=
  ∀ T w, TK S p s mc bk T → ((tabA T).sep (stoA s lv m S)).ho w → ((tabA T).sep X).ho w → Calls Try.prog f args w (TPost S p s mc bk v w (tabA T).fp)
section
variable {X : As} {S : Sto} {lv : Value} {m p s : Nat} {mc : Mc} {bk : Bool} {f : FuncId} {args : Array Value} {v : Value} {T : Tab} {w w0 : World} {M : List Nat} {L R K : List As}
theorem TX.mk (k : ∀ T w M, Hid (TK S p s mc bk T) → St w M [tabA T] w → Ks w M [stoA s lv m S, X] → Calls Try.prog f args w (TPost S p s mc bk v w M)) : TX X S lv m p s mc bk f args v := fun T w hT h hX => by
  rw [sep_ho] at h hX
  obtain ⟨h1, h2, hd⟩ := h
  obtain ⟨_, h3, hd3⟩ := hX
  exact k T w _ (Lib.hid hT) (St.one h1) ⟨by simp [h2, h3], by simpa using ⟨fun b hb hm => hd b hm hb, fun b hb hm => hd3 b hm hb⟩⟩
theorem TX.use (hc : TX X S lv m p s mc bk f args v) (hT : TK S p s mc bk T) (H : St w0 M L w) (hp : Pick L (tabA T) R) (hs : ((tabA T).sep (stoA s lv m S)).ho w) (hX : ((tabA T).sep X).ho w) {Q : Ending → World → Prop} (k : ∀ T' w', Hid (TK S p s mc bk T') → St w0 M (tabA T' :: R) w' → Q (.returned v) w') : Calls Try.prog f args w Q := by
  refine (hc T w hT hs hX).mono ?_
  rintro e w' ⟨T', rfl, hT', hst⟩
  exact k T' w' (Lib.hid hT') (by simpa using (H.pick hp).call hst)
end
abbrev ptsA (ad : Option Addr) (c : Nat) (lp : List Pt) : As := rowsA encT 135 3 (.slice ad lp.length c) lp
def TP (S : Sto) (lv : Value) (m p s : Nat) (mc : Mc) (bk : Bool) (f : FuncId) (args : Array Value) (l : List Nat) : Prop :=
  ∀ T w, TK S p s mc bk T → ((tabA T).sep (stoA s lv m S)).ho w → Calls Try.prog f args w fun e w' => ∃ ad c lp, e = .returned (.slice ad lp.length c) ∧ runP S bk lp = l ∧ (∀ t ∈ lp, PtOk S (fun _ => True) t) ∧ St w [] [ptsA ad c lp] w'
section
variable {S : Sto} {lv : Value} {m p s : Nat} {mc : Mc} {bk : Bool} {f : FuncId} {args : Array Value} {l : List Nat} {T : Tab} {w w0 : World} {M : List Nat} {L R K : List As}
theorem TP.use (hc : TP S lv m p s mc bk f args l) (hT : TK S p s mc bk T) (H : St w0 M L w) (hs : ((tabA T).sep (stoA s lv m S)).ho w) {Q : Ending → World → Prop} (k : ∀ ad c lp w', Hid (runP S bk lp = l ∧ ∀ t ∈ lp, PtOk S (fun _ => True) t) → St w0 M (ptsA ad c lp :: L) w' → Q (.returned (.slice ad lp.length c)) w') : Calls Try.prog f args w Q := by
  refine (hc T w hT hs).mono ?_
  rintro e w' ⟨ad, c, lp, rfl, h1, h2, hst⟩
  exact k ad c lp w' (Lib.hid ⟨h1, h2⟩) (by simpa using H.call0 hst)
theorem sparts_p {id a n : Nat} (hS : S.Ok) (hid : id ≤ S.list.length) (hf : a + n ≤ (S.txt id).length) : TP S lv m p s mc bk 38 #[.pointer (some ⟨p, 0, none⟩), .int .i64 id, .int .i64 a, .int .i64 n] (dirT bk (((S.txt id).drop a).take n)) := fun T w hT h => by
  obtain ⟨ok, rfl, rfl, rfl, rfl⟩ := hT
  rw [sep_ho] at h
  refine (sparts_c hS ok hid hf w h.1 h.2.1).mono ?_
  rintro e w' ⟨ad, c, lp, he, h1, h2, _, hst⟩
  exact ⟨ad, c, lp, he, h1, h2, hst⟩
theorem through_x {q : Nat} {ad : Option Addr} {c : Nat} {lp : List Pt} (hS : S.Ok) (hq : q < mc.n) (hlp : ∀ t ∈ lp, PtOk S (fun _ => True) t) : TX (ptsA ad c lp) S lv m p s mc bk 37 #[.pointer (some ⟨p, 0, none⟩), .slice ad lp.length c, .int .i64 q] (.int .i64 (mc.ends q (runP S bk lp) : Nat)) := fun T w hT h hX => by
  have hTK := hT
  obtain ⟨ok, rfl, rfl, rfl, rfl⟩ := hT
  rw [sep_ho] at hX
  refine (through_c hS ok hq hlp w h hX.2.1 fun b hb hm => hX.2.2 b hm hb).mono ?_
  rintro e w' ⟨T', he, hx, hT', hs⟩
  exact ⟨T', he, hTK.ext hx hT', hs⟩
end
theorem ptTxt_dir (S : Sto) (bk : Bool) (t : Pt) : dirT bk (S.ptTxt t) = rep t.times (S.dtx bk t.id) := by unfold Sto.ptTxt Sto.dtx; rw [dirT_rep]
theorem runP_split {S : Sto} {bk : Bool} {lp : List Pt} {j : Nat} {t : Pt} (h : lp[j]? = some t) : runP S bk lp = runP S bk (lp.take j) ++ (rep t.times (S.dtx bk t.id) ++ runP S bk (lp.drop (j + 1))) := by
  have h1 := runP_take S bk h
  have h2 : runP S bk (lp.take (j + 1) ++ lp.drop (j + 1)) = _ := runP_append S bk (lp.take (j + 1)) (lp.drop (j + 1))
  rw [List.take_append_drop, h1, ptTxt_dir, List.append_assoc] at h2
  exact h2
theorem runP_lt {S : Sto} (hS : S.Ok) (bk : Bool) {lp : List Pt} (hlp : ∀ t ∈ lp, PtOk S (fun _ => True) t) : ∀ b ∈ runP S bk lp, b < 256 := fun b hb => by
  unfold runP at hb
  obtain ⟨l, hl, hb⟩ := List.mem_flatten.1 hb
  obtain ⟨t, ht, rfl⟩ := List.mem_map.1 hl
  have hb2 : b ∈ S.ptTxt t := by unfold dirT at hb; split at hb; simpa using hb; exact hb
  exact S.txt_lt hS (hlp t ht).le b (rep_mem hb2)
theorem fst_part {S : Sto} {mc : Mc} {bk : Bool} {id q k : Nat} {a r : List Nat} {c : Nat} (h0 : mc.sum q a = 0) (hc : skC (S.stp mc bk id) (S.hit mc bk id) k (mc.ends q a) = c) :
    (c < k → 0 < mc.sum (itr (S.stp mc bk id) c (mc.ends q a)) (S.dtx bk id) ∧ mc.fst q (a ++ (rep k (S.dtx bk id) ++ r)) = a.length + (c * (S.dtx bk id).length + mc.fst (itr (S.stp mc bk id) c (mc.ends q a)) (S.dtx bk id))) ∧ (¬ c < k → c = k ∧ mc.sum q (a ++ rep k (S.dtx bk id)) = 0) := by
  have hno := skC_no (f := S.stp mc bk id) (h := S.hit mc bk id) k (mc.ends q a)
  have hye := skC_yes (f := S.stp mc bk id) (h := S.hit mc bk id) k (mc.ends q a)
  have hle := skC_le (f := S.stp mc bk id) (h := S.hit mc bk id) k (mc.ends q a)
  rw [hc] at hno hye hle
  refine ⟨fun hck => ?_, fun hck => ⟨by omega, ?_⟩⟩
  · have hy := of_decide_eq_true (hye hck)
    have hfr := Mc.fst_rep (l := S.dtx bk id) hck (fun c' hc' => by
      have := of_decide_eq_false (hno c' hc')
      exact Nat.le_zero.1 (Nat.not_lt.1 this)) hy
    have hge := Mc.sum_rep_ge (m := mc) (q := mc.ends q a) (l := S.dtx bk id) hck
    have hfr' : mc.fst (mc.ends q a) (rep k (S.dtx bk id)) = c * (S.dtx bk id).length + mc.fst (itr (S.stp mc bk id) c (mc.ends q a)) (S.dtx bk id) := hfr
    have hpos : 0 < mc.sum (mc.ends q a) (rep k (S.dtx bk id)) := Nat.lt_of_lt_of_le hy hge
    refine ⟨hy, ?_⟩
    rw [Mc.fst_append, if_pos h0, Mc.sum_append, if_neg (by omega), Mc.fst_append, if_neg (by omega), hfr']
  · obtain rfl : c = k := by omega
    rw [Mc.sum_append, h0, Mc.sum_rep_zero fun c' hc' => by
      have := of_decide_eq_false (hno c' hc')
      exact Nat.le_zero.1 (Nat.not_lt.1 this)]
theorem first_i {S : Sto} {lv : Value} {m p s : Nat} {mc : Mc} {bk : Bool} {id q : Nat} (hS : S.Ok) (h1 : 1 ≤ id) (hid : id ≤ S.list.length) (hq : q < mc.n) (hs : 0 < mc.sum q (S.dtx bk id)) :
    TC S lv m p s mc bk 76 #[.pointer (some ⟨p, 0, none⟩), .int .i64 id, .int .i64 q] (.int .i64 (mc.fst q (S.dtx bk id) : Nat)) := by
  obtain ⟨i, rfl⟩ : ∃ i, id = i + 1 := ⟨id - 1, by omega⟩
  exact first_t hS hid hq hs
def FrRel (S : Sto) (p s : Nat) (mc : Mc) (bk : Bool) (q0 : Nat) (lp : List Pt) (M : List Nat) (w : World) (v2 v7 v14 : Value) (wr : World) : Prop :=
  ∃ (T : Tab) (j : Nat), v2 = .int .i64 (mc.ends q0 (runP S bk (lp.take j)) : Nat) ∧ v7 = .int .i64 ((runP S bk (lp.take j)).length : Nat) ∧ v14 = .int .i64 (j : Nat) ∧ j ≤ lp.length ∧ mc.sum q0 (runP S bk (lp.take j)) = 0 ∧ TK S p s mc bk T ∧ St w M [tabA T] wr
theorem First_x {S : Sto} {lv : Value} {m p s : Nat} {mc : Mc} {bk : Bool} {q : Nat} {ad : Option Addr} {c : Nat} {lp : List Pt} (hS : S.Ok) (hq : q < mc.n) (hlp : ∀ t ∈ lp, PtOk S (fun _ => True) t) (hlen : (runP S bk lp).length ≤ 1152921504606846976) :
    TX (ptsA ad c lp) S lv m p s mc bk 48 #[.pointer (some ⟨p, 0, none⟩), .slice ad lp.length c, .int .i64 q] (.int .i64 (mc.fst q (runP S bk lp) : Nat)) := by
  refine TX.mk fun T w M HT H HK => ?_
  obtain ⟨cm, ok⟩ := HT.out.mok
  have HQ : Hid (∀ j, mc.ends q (runP S bk (lp.take j)) < mc.n) := Lib.hid fun j => ok.ends_lt hq (runP_lt hS bk fun t ht => hlp t (List.mem_of_mem_take ht))
  have hll : lp.length ≤ 9223372036854775807 := by
    obtain ⟨_, _, _, hm⟩ := rowsA_shape (H.known HK (A := ptsA ad c lp) pk)
    unfold maxLen at hm; omega
  have HLP := Lib.hid hlp
  have HS := Lib.hid hS
  have HOK := Lib.hid ok
  clear hS hlp ok
  go_enter Try.func48, Try.ntmps48
  go_wp2_with (first | refine sL ?_ | (refine sS ?_; clear H; intro _ H) | (refine sA ?_; clear H; intro _ _ H))
  go_loopw [2, 7, 14] (fun v2 v7 v14 wr => FrRel S p s mc bk q lp M w v2 v7 v14 wr) (fun _ _ v14 _ => lp.length - (intOf v14).toNat)
  case atStart => exact ⟨T, 0, rfl, rfl, rfl, Nat.zero_le _, rfl, HT.out, H⟩
  case round =>
    clear H HT
    obtain ⟨T, j, rfl, rfl, rfl, hj, hsum, hT, H⟩ := hrel
    have HT := Lib.hid hT
    have hq1 := HQ.out j
    have HSU := Lib.hid hsum
    clear hT hsum
    by_cases hlt : j < lp.length
    · obtain ⟨⟨ti, tp, tt⟩, ht⟩ : ∃ t, lp[j]? = some t := ⟨_, List.getElem?_eq_getElem hlt⟩
      have hok := HLP.out _ (List.mem_of_getElem? ht)
      have htid : ti ≤ S.list.length := hok.le
      have hti1 : 1 ≤ ti := hok.pos
      have htt : tt ≤ 1152921504606846976 := ptok_times HS.out hok
      have hsp := runP_split (S := S) (bk := bk) ht
      have htk := runP_take S bk ht
      rw [ptTxt_dir] at htk
      simp only at hsp htk
      have hfp := fst_part (S := S) (bk := bk) (id := ti) (k := tt) (r := runP S bk (lp.drop (j + 1))) HSU.out rfl
      rw [← hsp, ← htk, dtx_len] at hfp
      have hlj : (runP S bk (lp.take (j + 1))).length = (runP S bk (lp.take j)).length + tt * (S.txt ti).length := by rw [htk, List.length_append, rep_len, dtx_len]
      have hlall : (runP S bk (lp.take j)).length + tt * (S.txt ti).length ≤ 1152921504606846976 := by
        have := congrArg List.length hsp
        rw [List.length_append, List.length_append, rep_len, dtx_len] at this
        omega
      have hen : mc.ends q (runP S bk (lp.take (j + 1))) = itr (S.stp mc bk ti) tt (mc.ends q (runP S bk (lp.take j))) := by rw [htk, Mc.ends_append, ends_rep]; rfl
      have HSK := Lib.hid (skip_t (lv := lv) (m := m) (p := p) (s := s) (bk := bk) HS.out htid hq1 htt)
      have HSZ := Lib.hid (ssize_t (lv := lv) (m := m) (p := p) (s := s) (mc := mc) (bk := bk) HS.out htid)
      have hcl := skC_le (f := S.stp mc bk ti) (h := S.hit mc bk ti) tt (mc.ends q (runP S bk (lp.take j)))
      have hq2 : itr (S.stp mc bk ti) (skC (S.stp mc bk ti) (S.hit mc bk ti) tt (mc.ends q (runP S bk (lp.take j)))) (mc.ends q (runP S bk (lp.take j))) < mc.n := itr_lt (stp_lt HOK.out HS.out bk htid) hq1
      obtain ⟨gr, cr, hadr, _, _⟩ := rowsA_cases (H.known HK (A := ptsA ad c lp) pk) (by omega)
      injection hadr with x1 x2 x3
      subst x1 x3
      have HLK := Lib.hid ht
      clear ht x2 hok hsp htk
      generalize mc.ends q (runP S bk (lp.take j)) = q1 at *
      generalize skC (S.stp mc bk ti) (S.hit mc bk ti) tt q1 = cc at *
      generalize hrd : (runP S bk (lp.take j)).length = rd at *
      generalize hln : (S.txt ti).length = ln at *
      have hp : (cc : Int) * (ln : Int) = ((cc * ln : Nat) : Int) := (Int.natCast_mul cc ln).symm
      have hpl : cc * ln ≤ tt * ln := Nat.mul_le_mul_right ln hcl
      by_cases hct : cc < tt
      · obtain ⟨f1, f2⟩ := hfp.1 hct
        have HFI := Lib.hid (first_i (lv := lv) (m := m) (p := p) (s := s) HS.out hti1 htid hq2 f1)
        have hfl := mc.fst_le (itr (S.stp mc bk ti) cc q1) (S.dtx bk ti)
        generalize itr (S.stp mc bk ti) cc q1 = q2 at *
        have hfres := mc.fst_le q (runP S bk lp)
        generalize mc.fst q (runP S bk lp) = res at *
        generalize mc.fst q2 (S.dtx bk ti) = fi at *
        have HRES : Hid (rd + cc * ln + fi = res) := Lib.hid (by omega)
        generalize cc * ln = pr at *
        have hb1 : rd + pr + fi ≤ 1152921504606846976 := by omega
        clear hfp f1 f2 hfl hfres hen hlj hlall hpl hcl
        go_wp2_with (first | refine sL ?_ | (refine sS ?_; clear H; intro _ H) | (refine sA ?_; clear H; intro _ _ H) | ((with_reducible refine isLoad ?_); refine AtLoad.rngT (vs := [.int .i64 ti, .int .i64 tp, .int .i64 tt]) rfl rfl rfl (rowsA_rng (H.known HK (A := ptsA (some ⟨gr, 0, none⟩) c lp) pk) encT_len HLK.out) rfl ?_; simp only [Act.put, puA, puB, puC]) | (go_at_call 43; with_reducible refine TC.use (HSK.out) HT.out H pk ts ?_; clear H; intro T' _ HT H) | (go_at_call 36; with_reducible refine TQ.use (HSZ.out) HT.out H pk ts ?_; clear H; intro _ H) | (go_at_call 76; with_reducible refine TC.use (HFI.out) HT.out H pk ts ?_; clear H; intro T' _ HT H))
        go_ret
        exact ⟨T', by rw [← HRES.out]; rfl, HT.out, (H.pick (A := tabA T') pk).onlyHead⟩
      · obtain ⟨f1, f2⟩ := hfp.2 hct
        subst f1
        have HREL : Hid (mc.ends q (runP S bk (lp.take (j + 1))) = itr (S.stp mc bk ti) cc q1 ∧ (runP S bk (lp.take (j + 1))).length = rd + cc * ln ∧ mc.sum q (runP S bk (lp.take (j + 1))) = 0) := Lib.hid ⟨hen, hlj, f2⟩
        generalize itr (S.stp mc bk ti) cc q1 = q2 at *
        generalize cc * ln = pr at *
        have hb1 : rd + pr ≤ 1152921504606846976 := by omega
        clear hfp f2 hen hlj hlall hpl hcl
        go_wp2_with (first | refine sL ?_ | (refine sS ?_; clear H; intro _ H) | (refine sA ?_; clear H; intro _ _ H) | ((with_reducible refine isLoad ?_); refine AtLoad.rngT (vs := [.int .i64 ti, .int .i64 tp, .int .i64 cc]) rfl rfl rfl (rowsA_rng (H.known HK (A := ptsA (some ⟨gr, 0, none⟩) c lp) pk) encT_len HLK.out) rfl ?_; simp only [Act.put, puA, puB, puC]) | (go_at_call 43; with_reducible refine TC.use (HSK.out) HT.out H pk ts ?_; clear H; intro T' _ HT H) | (go_at_call 36; with_reducible refine TQ.use (HSZ.out) HT.out H pk ts ?_; clear H; intro _ H))
        have hrl : FrRel S p s mc bk q lp M w (.int .i64 q2) (.int .i64 ((rd : Int) + pr)) (.int .i64 ((j : Int) + 1)) _ := ⟨T', j + 1, by rw [HREL.out.1], by rw [HREL.out.2.1]; go_num, by go_num, by omega, HREL.out.2.2, HT.out, (H.pick (A := tabA T') pk).onlyHead⟩
        first | exact ⟨hrl, by simp [intOf]; omega⟩ | (refine ⟨?_, by simp [intOf]; omega⟩; (repeat apply Exists.intro); exact ⟨hrl, rfl⟩)
    · obtain rfl : j = lp.length := by omega
      have hz : mc.fst q (runP S bk lp) = 0 := by
        have := HSU.out
        rw [List.take_length] at this
        exact (Mc.fst_zero _ _).2 this
      have HZ := Lib.hid hz
      clear hz
      go_wp2_with (first | refine sL ?_ | (refine sS ?_; clear H; intro _ H) | (refine sA ?_; clear H; intro _ _ H))
      go_ret
      exact ⟨T, by rw [HZ.out]; rfl, HT.out, H⟩
end Go.Proofs.Ytijnhpaafhcndaa
end
section
namespace Go.Proofs.Ytijnhpaafhcndaa
open Go.RowKit Go.Maps
attribute [local go_sem] InGr
set_option maxHeartbeats 4000000
set_option maxRecDepth 100000
set_option linter.unusedSimpArgs false
set_option linter.unusedVariables false
def lkC (f : Nat → Nat) (h : Nat → Bool) : Nat → Nat → Nat
  | 0, _ => 0
  | k + 1, q => if h (itr f k q) then k else lkC f h k q
section
variable {f : Nat → Nat} {h : Nat → Bool}
theorem lkC_eq {q c : Nat} (h1 : h (itr f c q) = true) : ∀ {k : Nat}, c < k → (∀ c', c < c' → c' < k → h (itr f c' q) = false) → lkC f h k q = c
  | 0, hc, _ => by omega
  | k + 1, hc, h0 => by
    rw [lkC]
    rcases Nat.lt_or_ge c k with hl | hl
    · rw [h0 k hl (by omega), if_neg (by simp)]
      exact lkC_eq h1 hl fun c' a b => h0 c' a (by omega)
    · obtain rfl : c = k := by omega
      rw [h1, if_pos rfl]
theorem lkC_zero {q : Nat} : ∀ {k : Nat}, (∀ c', 0 < c' → c' < k → h (itr f c' q) = false) → lkC f h k q = 0
  | 0, _ => rfl
  | k + 1, h0 => by
    rw [lkC]
    rcases Nat.eq_zero_or_pos k with rfl | hl
    · split <;> rfl
    · rw [h0 k hl (by omega), if_neg (by simp)]
      exact lkC_zero fun c' a b => h0 c' a (by omega)
theorem lkC_spec {q : Nat} : ∀ {k c : Nat}, c < k → h (itr f c q) = true → h (itr f (lkC f h k q) q) = true ∧ lkC f h k q < k ∧ ∀ c', lkC f h k q < c' → c' < k → h (itr f c' q) = false
  | 0, c, hc, _ => by omega
  | k + 1, c, hc, h1 => by
    rw [lkC]
    by_cases hk : h (itr f k q) = true
    · rw [if_pos hk]
      exact ⟨hk, by omega, fun c' a b => by omega⟩
    · rw [if_neg hk]
      have hck : c < k := by
        rcases Nat.lt_or_ge c k with hl | hl
        · exact hl
        · obtain rfl : c = k := by omega
          exact absurd h1 hk
      obtain ⟨a1, a2, a3⟩ := lkC_spec hck h1
      refine ⟨a1, by omega, fun c' a b => ?_⟩
      rcases Nat.lt_or_ge c' k with hl | hl
      · exact a3 c' a hl
      · obtain rfl : c' = k := by omega
        simpa using hk
end
theorem cycle_none {f : Nat → Nat} {h : Nat → Bool} {q n tail times : Nat} (ht : tail < n) (he : itr f n q = itr f tail q) (hn : n < times) (h0 : ∀ c, times - (n - tail) ≤ c → c < times → h (itr f c q) = false) : ∀ c, tail ≤ c → c < times → h (itr f c q) = false := fun c hc hct => by
  have h1 : itr f (tail + (n - tail)) q = itr f tail q := by rw [show tail + (n - tail) = n by omega]; exact he
  generalize hP : n - tail = P at *
  have hP0 : 0 < P := by omega
  -- the place in the last cycle that stands for c
  have hm := Nat.mod_lt (times - 1 - c) hP0
  have hd := Nat.div_add_mod (times - 1 - c) P
  have key : h (itr f (times - 1 - (times - 1 - c) % P) q) = false := h0 _ (by omega) (by omega)
  have e : itr f (times - 1 - (times - 1 - c) % P) q = itr f c q := by
    have := itr_cycle h1 (c - tail) ((times - 1 - c) / P)
    rw [show tail + (P * ((times - 1 - c) / P) + (c - tail)) = times - 1 - (times - 1 - c) % P by omega, show tail + (c - tail) = c by omega] at this
    exact this
  rw [← e]
  exact key
section
variable {S : Sto} {lv : Value} {m p s : Nat} {mc : Mc} {bk : Bool} {T : Tab} {w w0 : World} {M : List Nat} {L R : List As}
def TO (S : Sto) (lv : Value) (m p s : Nat) (mc : Mc) (bk : Bool) (f : FuncId) (args : Array Value) (g : Nat → Nat) (q times : Nat) : Prop :=
  ∀ T w, TK S p s mc bk T → ((tabA T).sep (stoA s lv m S)).ho w → Calls Try.prog f args w fun e w' => ∃ T' ad c xs tail, e = .returned (.agg #[.slice ad xs.length c, .int .i64 (tail : Nat)]) ∧ Orb g q times xs tail ∧ TK S p s mc bk T' ∧ St w (tabA T).fp [tabA T', rowsA encI 3 1 (.slice ad xs.length c) xs] w'
theorem TO.use {f : FuncId} {args : Array Value} {g : Nat → Nat} {q times : Nat} (hc : TO S lv m p s mc bk f args g q times) (hT : TK S p s mc bk T) (H : St w0 M L w) (hp : Pick L (tabA T) R) (hs : ((tabA T).sep (stoA s lv m S)).ho w) {Q : Ending → World → Prop} (k : ∀ T' ad c xs tail w', Hid (TK S p s mc bk T') → Hid (Orb g q times xs tail) → St w0 M (tabA T' :: rowsA encI 3 1 (.slice ad xs.length c) xs :: R) w' → Q (.returned (.agg #[.slice ad xs.length c, .int .i64 (tail : Nat)])) w') : Calls Try.prog f args w Q := by
  refine (hc T w hT hs).mono ?_
  rintro e w' ⟨T', ad, c, xs, tail, rfl, ho, hT', hst⟩
  exact k T' ad c xs tail w' (Lib.hid hT') (Lib.hid ho) (by simpa using (H.pick hp).call hst)
theorem follow_o {id q times : Nat} (hS : S.Ok) (hid : id ≤ S.list.length) (hq : q < mc.n) (ht : times ≤ 1152921504606846976) : TO S lv m p s mc bk 67 #[.pointer (some ⟨p, 0, none⟩), .int .i64 id, .int .i64 q, .int .i64 times] (S.stp mc bk id) q times := fun T w hT h => by
  have hTK := hT
  obtain ⟨ok, rfl, rfl, rfl, rfl⟩ := hT
  refine (follow_c hS ok hid hq ht w h).mono ?_
  rintro e w' ⟨T', ad, c, xs, tail, he, ho, hx, hT', hst⟩
  exact ⟨T', ad, c, xs, tail, he, ho, hTK.ext hx hT', hst⟩
end
theorem at_use {g : Nat → Nat} {q times tail cs : Nat} {z : Int} (hz : z = (cs : Nat)) {xs : List Nat} {ad : Option Addr} {c : Nat} (o : Orb g q times xs tail) (hc : cs ≤ times) (ht : times ≤ 1152921504606846976) {w w0 : World} {M : List Nat} {L : List As} (H : St w0 M L w) (hr : (rowsA encI 3 1 (.slice ad xs.length c) xs).ho w) {Q : Ending → World → Prop} (k : ∀ w', St w0 M L w' → Q (.returned (.int .i64 (itr g cs q : Nat))) w') : Calls Try.prog 68 #[.agg #[.slice ad xs.length c, .int .i64 (tail : Nat)], .int .i64 z] w Q := by
  subst hz
  refine (at_orb o hc ht w hr).mono ?_
  rintro e w' ⟨rfl, hs⟩
  exact k w' (H.grew hs.below)
def L1Rel (S : Sto) (p s : Nat) (mc : Mc) (bk : Bool) (id q times lo b10 n tail : Nat) (ad : Option Addr) (c : Nat) (xs : List Nat) (M : List Nat) (w : World) (v12 : Value) (wr : World) : Prop :=
  ∃ (T : Tab) (k : Nat), v12 = .int .i64 (k : Nat) ∧ lo ≤ k + 1 ∧ k < times ∧ (∀ c', k < c' → c' < times → S.hit mc bk id (itr (S.stp mc bk id) c' q) = false) ∧ TK S p s mc bk T ∧ St w M [tabA T, rowsA encI 3 1 (.slice ad n c) xs, blk b10 (.cells #[.slice ad n c, .int .i64 (tail : Nat)] 137)] wr
def L2Rel (S : Sto) (p s : Nat) (mc : Mc) (bk : Bool) (id q times K b10 n tail : Nat) (ad : Option Addr) (c : Nat) (xs : List Nat) (M : List Nat) (w : World) (v13 : Value) (wr : World) : Prop :=
  ∃ (T : Tab) (z : Int), v13 = .int .i64 z ∧ -1 ≤ z ∧ z < K ∧ (∀ c' : Nat, z < c' → c' < times → S.hit mc bk id (itr (S.stp mc bk id) c' q) = false) ∧ TK S p s mc bk T ∧ St w M [tabA T, rowsA encI 3 1 (.slice ad n c) xs, blk b10 (.cells #[.slice ad n c, .int .i64 (tail : Nat)] 137)] wr
theorem lastCopy_t {S : Sto} {lv : Value} {m p s : Nat} {mc : Mc} {bk : Bool} {id q times : Nat} (hS : S.Ok) (hid : id ≤ S.list.length) (hq : q < mc.n) (ht : times ≤ 1152921504606846976) (ht1 : 1 ≤ times) :
    TC S lv m p s mc bk 77 #[.pointer (some ⟨p, 0, none⟩), .int .i64 id, .int .i64 q, .int .i64 times] (.tuple #[.int .i64 (lkC (S.stp mc bk id) (S.hit mc bk id) times q : Nat), .int .i64 (itr (S.stp mc bk id) (lkC (S.stp mc bk id) (S.hit mc bk id) times q) q : Nat)]) := by
  refine TC.mk fun T w M HT H HK => ?_
  obtain ⟨cm, ok⟩ := HT.out.mok
  have HLT : Hid (∀ k, itr (S.stp mc bk id) k q < mc.n) := Lib.hid fun k => itr_lt (stp_lt ok hS bk hid) hq
  have HH : Hid (∀ q, q < mc.n → TC S lv m p s mc bk 74 #[.pointer (some ⟨p, 0, none⟩), .int .i64 id, .int .i64 q] (.bool (S.hit mc bk id q))) := Lib.hid fun q hq => hit_t hS hid hq
  have HFO := Lib.hid (follow_o (lv := lv) (m := m) (p := p) (s := s) (bk := bk) hS hid hq ht)
  clear ok hS hid hq
  go_enter Try.func77, Try.ntmps77
  go_wp2_with (first | refine sL ?_ | (refine sS ?_; clear H; intro _ H) | (refine sA ?_; clear H; intro b10 _ H) | (go_at_call 67; with_reducible refine TO.use HFO.out HT.out H pk ts ?_; clear H; intro T' ad c xs tail _ HT HO H))
  · have hlt : xs.length < times := by assumption
    simp only [decide_eq_true hlt]
    have hcyc : tail < xs.length ∧ itr (S.stp mc bk id) xs.length q = itr (S.stp mc bk id) tail q := by
      rcases HO.out.ends with h | h
      · omega
      · exact h
    have HCYC := Lib.hid hcyc
    have htl := hcyc.1
    have hxp := HO.out.pos
    have i1 : (xs.length : Int) - tail = ((xs.length - tail : Nat) : Int) := by omega
    have i2 : (times : Int) - ((xs.length - tail : Nat) : Int) = ((times - (xs.length - tail) : Nat) : Int) := by omega
    have hlo1 : 1 ≤ times - (xs.length - tail) := by omega
    have hlo2 : times - (xs.length - tail) ≤ times := by omega
    have hpb : xs.length - tail ≤ times := by omega
    clear hcyc
    generalize hlo : times - (xs.length - tail) = lo at *
    generalize hP : xs.length - tail = P at *
    have HLO := Lib.hid hlo
    have HP := Lib.hid hP
    clear hlo hP
    go_loopw [12] (fun v12 wr => L1Rel S p s mc bk id q times lo b10 xs.length tail ad c xs M w v12 wr) (fun v12 _ => (intOf v12).toNat)
    case atStart => exact ⟨T', times - 1, congrArg _ (by omega), by omega, by omega, fun c' a b => by omega, HT.out, H.only3 (A := tabA T') (B := rowsA encI 3 1 (.slice ad xs.length c) xs) (C := blk b10 (.cells #[.slice ad xs.length c, .int .i64 (tail : Nat)] 137)) pk pk pk⟩
    case round =>
      clear H HT
      obtain ⟨T, k, rfl, hk1, hk2, hno, hT, H⟩ := hrel
      have HT := Lib.hid hT
      have HNO := Lib.hid hno
      have hkt : k ≤ times := by omega
      clear hT hno
      by_cases hk : lo ≤ k
      · have HHQ := Lib.hid (HH.out _ (HLT.out k))
        cases hh : S.hit mc bk id (itr (S.stp mc bk id) k q) with
        | true =>
          rw [hh] at HHQ
          have HSK := Lib.hid (lkC_eq hh hk2 HNO.out)
          clear hh
          go_wp2_with (first | refine sL ?_ | (refine sS ?_; clear H; intro _ H) | (refine sA ?_; clear H; intro _ _ H) | (go_at_call 68; with_reducible refine at_use (by omega) HO.out hkt ht H (H.get (A := rowsA encI 3 1 (.slice ad xs.length c) xs) pk) ?_; clear H; intro _ H) | (go_at_call 74; with_reducible refine TC.use (HHQ.out) HT.out H pk ts ?_; clear H; intro T' _ HT H))
          go_ret2
          exact ⟨T', by rw [HSK.out]; rfl, HT.out, (H.pick (A := tabA T') pk).onlyHead⟩
        | false =>
          rw [hh] at HHQ
          have HHF := Lib.hid hh
          clear hh
          obtain ⟨k', rfl⟩ : ∃ k', k = k' + 1 := ⟨k - 1, by omega⟩
          go_wp2_with (first | refine sL ?_ | (refine sS ?_; clear H; intro _ H) | (refine sA ?_; clear H; intro _ _ H) | (go_at_call 68; with_reducible refine at_use (by omega) HO.out hkt ht H (H.get (A := rowsA encI 3 1 (.slice ad xs.length c) xs) pk) ?_; clear H; intro _ H) | (go_at_call 74; with_reducible refine TC.use (HHQ.out) HT.out H pk ts ?_; clear H; intro T' _ HT H))
          have hrl : L1Rel S p s mc bk id q times lo b10 xs.length tail ad c xs M w (.int .i64 (k' : Nat)) _ := ⟨T', k', rfl, by omega, by omega, fun c' a b => by
            rcases Nat.lt_or_ge (k' + 1) c' with hl | hl
            · exact HNO.out c' (by omega) b
            · obtain rfl : c' = k' + 1 := by omega
              exact HHF.out, HT.out, H.only3 (A := tabA T') (B := rowsA encI 3 1 (.slice ad xs.length c) xs) (C := blk b10 (.cells #[.slice ad xs.length c, .int .i64 (tail : Nat)] 137)) pk pk pk⟩
          first | exact ⟨hrl, by simp [intOf] <;> omega⟩ | (refine ⟨?_, by simp [intOf] <;> omega⟩; (repeat apply Exists.intro); exact ⟨hrl, rfl⟩)
      · have HCY := Lib.hid (cycle_none (h := S.hit mc bk id) HCYC.out.1 HCYC.out.2 hlt fun c' a b => HNO.out c' (by have := HLO.out; have := HP.out; omega) b)
        clear HNO
        go_wp2_with (first | refine sL ?_ | (refine sS ?_; clear H; intro _ H) | (refine sA ?_; clear H; intro _ _ H))
        go_loopw [13] (fun v13 wr => L2Rel S p s mc bk id q times tail b10 xs.length tail ad c xs M w v13 wr) (fun v13 _ => (intOf v13).toNat)
        case atStart => exact ⟨T, (tail : Int) - 1, rfl, by omega, by omega, fun c' a b => HCY.out c' (by omega) b, HT.out, H.only3 (A := tabA T) (B := rowsA encI 3 1 (.slice ad xs.length c) xs) (C := blk b10 (.cells #[.slice ad xs.length c, .int .i64 (tail : Nat)] 137)) pk pk pk⟩
        case round =>
          clear H HT
          obtain ⟨T, z, rfl, hz1, hz2, hno, hT, H⟩ := hrel
          have HT := Lib.hid hT
          have HNO := Lib.hid hno
          clear hT hno
          by_cases hz : 0 < z
          · obtain ⟨k, rfl⟩ : ∃ k : Nat, z = (k : Int) + 1 := ⟨(z - 1).toNat, by omega⟩
            have hx := HO.out.at_low (c := k + 1) (by omega)
            have HHQ := Lib.hid (HH.out _ (HLT.out (k + 1)))
            obtain ⟨gx, cx, hadr, _, hcm⟩ := rowsA_cases (H.get (A := rowsA encI 3 1 (.slice ad xs.length c) xs) pk) (by omega)
            unfold maxLen at hcm
            injection hadr with x1 x2 x3
            subst x1 x3
            clear x2
            have hkx : k + 1 < xs.length := by omega
            cases hh : S.hit mc bk id (itr (S.stp mc bk id) (k + 1) q) with
            | true =>
              rw [hh] at HHQ
              have HSK := Lib.hid (lkC_eq hh (k := times) (by omega) fun c' a b => HNO.out c' (by omega) b)
              generalize hqq : itr (S.stp mc bk id) (k + 1) q = q2 at *
              have HQQ := Lib.hid hqq
              have HXC := Lib.hid hx
              clear hx hh hqq
              go_wp2_with (first | refine sL ?_ | (refine sS ?_; clear H; intro _ H) | (refine sA ?_; clear H; intro _ _ H) | ((with_reducible refine isLoad ?_); refine AtLoad.cel rfl rfl rfl rfl (rowsA_cell1 (H.get (A := rowsA encI 3 1 (.slice (some ⟨gx, 0, none⟩) xs.length c) xs) pk) encI_len HXC.out rfl) ?_; simp only [Act.put, puA, puB, puC]) | (go_at_call 74; with_reducible refine TC.use (HHQ.out) HT.out H pk ts ?_; clear H; intro T' _ HT H))
              refine wp_region_h H 8 [] [] (by kernel_rfl) (by kernel_rfl) ?_
              apply Exists.intro
              refine ⟨fun w1 hw1 HX => ?_, fun bs wr Hr => ?_⟩
              · refine sG ?_
                repeat (first | refine sQ ?_ | ((with_reducible refine isQLoad ?_); refine QtLoad.cel rfl rfl rfl rfl (fun y => rowsA_cell1 ((HX y).get (A := rowsA encI 3 1 (.slice (some ⟨gx, 0, none⟩) xs.length c) xs) pk) encI_len HXC.out rfl) ?_; simp only [Act.put, puA, puB, puC]) | go_big_quiet_step (fail))
                exact wpQuiet_nil rfl
              clear H
              have H := Hr
              clear Hr
              replace H := sH H; refine sT ?_
              go_wp2_with (first | refine sL ?_ | (refine sS ?_; clear H; intro _ H) | (refine sA ?_; clear H; intro _ _ H))
              go_ret2
              exact ⟨T', by rw [HSK.out, HQQ.out]; rfl, HT.out, (H.pick (A := tabA T') pk).onlyHead⟩
            | false =>
              rw [hh] at HHQ
              have HHF := Lib.hid hh
              have HXC := Lib.hid hx
              generalize hqq : itr (S.stp mc bk id) (k + 1) q = q2 at *
              have HQQ := Lib.hid hqq
              clear hx hh hqq
              go_wp2_with (first | refine sL ?_ | (refine sS ?_; clear H; intro _ H) | (refine sA ?_; clear H; intro _ _ H) | ((with_reducible refine isLoad ?_); refine AtLoad.cel rfl rfl rfl rfl (rowsA_cell1 (H.get (A := rowsA encI 3 1 (.slice (some ⟨gx, 0, none⟩) xs.length c) xs) pk) encI_len HXC.out rfl) ?_; simp only [Act.put, puA, puB, puC]) | (go_at_call 74; with_reducible refine TC.use (HHQ.out) HT.out H pk ts ?_; clear H; intro T' _ HT H))
              have hrl : L2Rel S p s mc bk id q times tail b10 xs.length tail (some ⟨gx, 0, none⟩) c xs M w (.int .i64 (k : Nat)) _ := ⟨T', (k : Int), rfl, by omega, by omega, fun c' a b => by
                rcases Nat.lt_or_ge (k + 1) c' with hl | hl
                · exact HNO.out c' (by omega) b
                · obtain rfl : c' = k + 1 := by omega
                  rw [HQQ.out]
                  exact HHF.out, HT.out, H.only3 (A := tabA T') (B := rowsA encI 3 1 (.slice (some ⟨gx, 0, none⟩) xs.length c) xs) (C := blk b10 (.cells #[.slice (some ⟨gx, 0, none⟩) xs.length c, .int .i64 (tail : Nat)] 137)) pk pk pk⟩
              first | exact ⟨hrl, by simp [intOf] <;> omega⟩ | (refine ⟨?_, by simp [intOf] <;> omega⟩; (repeat apply Exists.intro); exact ⟨hrl, rfl⟩)
          · have HSK := Lib.hid (lkC_zero (f := S.stp mc bk id) (h := S.hit mc bk id) (q := q) (k := times) fun c' a b => HNO.out c' (by omega) b)
            have d1 : decide ((0 : Int) < z) = false := by simpa using hz
            go_wp2_with (first | refine sL ?_ | (refine sS ?_; clear H; intro _ H) | (refine sA ?_; clear H; intro _ _ H))
            go_ret2
            exact ⟨T, by rw [HSK.out]; rfl, HT.out, (H.pick (A := tabA T) pk).onlyHead⟩
  · have hnt : ¬ xs.length < times := by omega
    simp only [decide_eq_false hnt]
    go_loopw [13] (fun v13 wr => L2Rel S p s mc bk id q times times b10 xs.length tail ad c xs M w v13 wr) (fun v13 _ => (intOf v13).toNat)
    case atStart => exact ⟨T', (times : Int) - 1, rfl, by omega, by omega, fun c' a b => by omega, HT.out, H.only3 (A := tabA T') (B := rowsA encI 3 1 (.slice ad xs.length c) xs) (C := blk b10 (.cells #[.slice ad xs.length c, .int .i64 (tail : Nat)] 137)) pk pk pk⟩
    case round =>
      clear H HT
      obtain ⟨T, z, rfl, hz1, hz2, hno, hT, H⟩ := hrel
      have HT := Lib.hid hT
      have HNO := Lib.hid hno
      clear hT hno
      by_cases hz : 0 < z
      · obtain ⟨k, rfl⟩ : ∃ k : Nat, z = (k : Int) + 1 := ⟨(z - 1).toNat, by omega⟩
        have hx := HO.out.at_low (c := k + 1) (by omega)
        have HHQ := Lib.hid (HH.out _ (HLT.out (k + 1)))
        obtain ⟨gx, cx, hadr, _, hcm⟩ := rowsA_cases (H.get (A := rowsA encI 3 1 (.slice ad xs.length c) xs) pk) (by omega)
        unfold maxLen at hcm
        injection hadr with x1 x2 x3
        subst x1 x3
        clear x2
        have hkx : k + 1 < xs.length := by omega
        cases hh : S.hit mc bk id (itr (S.stp mc bk id) (k + 1) q) with
        | true =>
          rw [hh] at HHQ
          have HSK := Lib.hid (lkC_eq hh (k := times) (by omega) fun c' a b => HNO.out c' (by omega) b)
          generalize hqq : itr (S.stp mc bk id) (k + 1) q = q2 at *
          have HQQ := Lib.hid hqq
          have HXC := Lib.hid hx
          clear hx hh hqq
          go_wp2_with (first | refine sL ?_ | (refine sS ?_; clear H; intro _ H) | (refine sA ?_; clear H; intro _ _ H) | ((with_reducible refine isLoad ?_); refine AtLoad.cel rfl rfl rfl rfl (rowsA_cell1 (H.get (A := rowsA encI 3 1 (.slice (some ⟨gx, 0, none⟩) xs.length c) xs) pk) encI_len HXC.out rfl) ?_; simp only [Act.put, puA, puB, puC]) | (go_at_call 74; with_reducible refine TC.use (HHQ.out) HT.out H pk ts ?_; clear H; intro T' _ HT H))
          refine wp_region_h H 8 [] [] (by kernel_rfl) (by kernel_rfl) ?_
          apply Exists.intro
          refine ⟨fun w1 hw1 HX => ?_, fun bs wr Hr => ?_⟩
          · refine sG ?_
            repeat (first | refine sQ ?_ | ((with_reducible refine isQLoad ?_); refine QtLoad.cel rfl rfl rfl rfl (fun y => rowsA_cell1 ((HX y).get (A := rowsA encI 3 1 (.slice (some ⟨gx, 0, none⟩) xs.length c) xs) pk) encI_len HXC.out rfl) ?_; simp only [Act.put, puA, puB, puC]) | go_big_quiet_step (fail))
            exact wpQuiet_nil rfl
          clear H
          have H := Hr
          clear Hr
          replace H := sH H; refine sT ?_
          go_wp2_with (first | refine sL ?_ | (refine sS ?_; clear H; intro _ H) | (refine sA ?_; clear H; intro _ _ H))
          go_ret2
          exact ⟨T', by rw [HSK.out, HQQ.out]; rfl, HT.out, (H.pick (A := tabA T') pk).onlyHead⟩
        | false =>
          rw [hh] at HHQ
          have HHF := Lib.hid hh
          have HXC := Lib.hid hx
          generalize hqq : itr (S.stp mc bk id) (k + 1) q = q2 at *
          have HQQ := Lib.hid hqq
          clear hx hh hqq
          go_wp2_with (first | refine sL ?_ | (refine sS ?_; clear H; intro _ H) | (refine sA ?_; clear H; intro _ _ H) | ((with_reducible refine isLoad ?_); refine AtLoad.cel rfl rfl rfl rfl (rowsA_cell1 (H.get (A := rowsA encI 3 1 (.slice (some ⟨gx, 0, none⟩) xs.length c) xs) pk) encI_len HXC.out rfl) ?_; simp only [Act.put, puA, puB, puC]) | (go_at_call 74; with_reducible refine TC.use (HHQ.out) HT.out H pk ts ?_; clear H; intro T' _ HT H))
          have hrl : L2Rel S p s mc bk id q times times b10 xs.length tail (some ⟨gx, 0, none⟩) c xs M w (.int .i64 (k : Nat)) _ := ⟨T', (k : Int), rfl, by omega, by omega, fun c' a b => by
            rcases Nat.lt_or_ge (k + 1) c' with hl | hl
            · exact HNO.out c' (by omega) b
            · obtain rfl : c' = k + 1 := by omega
              rw [HQQ.out]
              exact HHF.out, HT.out, H.only3 (A := tabA T') (B := rowsA encI 3 1 (.slice (some ⟨gx, 0, none⟩) xs.length c) xs) (C := blk b10 (.cells #[.slice (some ⟨gx, 0, none⟩) xs.length c, .int .i64 (tail : Nat)] 137)) pk pk pk⟩
          first | exact ⟨hrl, by simp [intOf] <;> omega⟩ | (refine ⟨?_, by simp [intOf] <;> omega⟩; (repeat apply Exists.intro); exact ⟨hrl, rfl⟩)
      · have HSK := Lib.hid (lkC_zero (f := S.stp mc bk id) (h := S.hit mc bk id) (q := q) (k := times) fun c' a b => HNO.out c' (by omega) b)
        have d1 : decide ((0 : Int) < z) = false := by simpa using hz
        go_wp2_with (first | refine sL ?_ | (refine sS ?_; clear H; intro _ H) | (refine sA ?_; clear H; intro _ _ H))
        go_ret2
        exact ⟨T, by rw [HSK.out]; rfl, HT.out, (H.pick (A := tabA T) pk).onlyHead⟩
end Go.Proofs.Ytijnhpaafhcndaa
end
section
namespace Go.Proofs.Ytijnhpaafhcndaa
open Go.RowKit Go.Maps
attribute [local go_sem] InGr
set_option maxHeartbeats 4000000
set_option maxRecDepth 100000
set_option linter.unusedSimpArgs false
set_option linter.unusedVariables false
theorem lst_copies {S : Sto} {mc : Mc} {bk : Bool} {id k q c : Nat} (h : 0 < mc.sum q (rep k (S.dtx bk id))) (hc : lkC (S.stp mc bk id) (S.hit mc bk id) k q = c) :
    c < k ∧ 0 < mc.sum (itr (S.stp mc bk id) c q) (S.dtx bk id) ∧ mc.lst q (rep k (S.dtx bk id)) = c * (S.dtx bk id).length + mc.lst (itr (S.stp mc bk id) c q) (S.dtx bk id) := by
  obtain ⟨c0, h0, h1⟩ : ∃ c0, c0 < k ∧ S.hit mc bk id (itr (S.stp mc bk id) c0 q) = true := by
    refine Classical.byContradiction fun hn => ?_
    have : mc.sum q (rep k (S.dtx bk id)) = 0 := Mc.sum_rep_zero fun c hc => by
      have : ¬ S.hit mc bk id (itr (S.stp mc bk id) c q) = true := fun h => hn ⟨c, hc, h⟩
      unfold Sto.hit at this
      have h2 : mc.sum (itr (S.stp mc bk id) c q) (S.dtx bk id) = 0 := by simpa using this
      exact h2
    omega
  obtain ⟨a1, a2, a3⟩ := lkC_spec h0 h1
  rw [hc] at a1 a2 a3
  have a1' : 0 < mc.sum (itr (S.stp mc bk id) c q) (S.dtx bk id) := by unfold Sto.hit at a1; simpa using a1
  refine ⟨a2, a1', Mc.lst_rep a2 (fun c' x y => ?_) a1'⟩
  have := a3 c' x y
  unfold Sto.hit at this
  have h2 : mc.sum (itr (S.stp mc bk id) c' q) (S.dtx bk id) = 0 := by simpa using this
  exact h2
section
variable {S : Sto} {lv : Value} {m p s : Nat} {mc : Mc} {bk : Bool}
theorem lastCopy_s {i q times : Nat} (hS : S.Ok) (hi : i < S.list.length) (hq : q < mc.n) (ht : times ≤ 1152921504606846976) (ht1 : 1 ≤ times) :
    TC S lv m p s mc bk 77 #[.pointer (some ⟨p, 0, none⟩), .int .i64 ((i : Int) + 1), .int .i64 q, .int .i64 times] (.tuple #[.int .i64 (lkC (S.stp mc bk (i + 1)) (S.hit mc bk (i + 1)) times q : Nat), .int .i64 (itr (S.stp mc bk (i + 1)) (lkC (S.stp mc bk (i + 1)) (S.hit mc bk (i + 1)) times q) q : Nat)]) := lastCopy_t hS hi hq ht ht1
end
def LaRel (S : Sto) (p s : Nat) (mc : Mc) (bk : Bool) (res i0 : Nat) (M : List Nat) (w : World) (v1 v2 v7 : Value) (wr : World) : Prop :=
  ∃ (T : Tab) (i q read : Nat), v1 = .int .i64 ((i : Int) + 1) ∧ v2 = .int .i64 (q : Nat) ∧ v7 = .int .i64 (read : Nat) ∧ i ≤ i0 ∧ q < mc.n ∧ 0 < mc.sum q (S.dtx bk (i + 1)) ∧ read + mc.lst q (S.dtx bk (i + 1)) = res ∧ TK S p s mc bk T ∧ St w M [tabA T] wr
theorem last_t {S : Sto} {lv : Value} {m p s : Nat} {mc : Mc} {bk : Bool} {i q : Nat} (hS : S.Ok) (hid : i < S.list.length) (hq : q < mc.n) (hs : 0 < mc.sum q (S.dtx bk (i + 1))) :
    TC S lv m p s mc bk 78 #[.pointer (some ⟨p, 0, none⟩), .int .i64 ((i : Int) + 1), .int .i64 q] (.int .i64 (mc.lst q (S.dtx bk (i + 1)) : Nat)) := by
  refine TC.mk fun T w M HT H HK => ?_
  obtain ⟨c, ok⟩ := HT.out.mok
  have HC : Hid (∀ i, i < S.list.length → ∃ x kd lt lf rt tm, S.list[i]? = some x ∧ ruleL x.r = [.int .i64 (kd : Nat), .int .u8 (lt : Nat), .int .i64 (lf : Nat), .int .i64 (rt : Nat), .int .i64 (tm : Nat)] ∧ DCase S bk i kd lt lf rt tm) := Lib.hid fun i hi => dcase hS bk hi
  have HOK := Lib.hid ok
  have HS := Lib.hid hS
  have hres : mc.lst q (S.dtx bk (i + 1)) ≤ 1152921504606846976 := by
    have h1 := mc.lst_le q (S.dtx bk (i + 1))
    rw [dtx_len] at h1
    have := txt_max hS (i := i + 1) (by omega)
    omega
  have hlen : S.list.length ≤ 1048576 := by have := hS.len; have := hS.most; omega
  clear ok hS
  go_enter Try.func78, Try.ntmps78
  go_wp2_with (first | refine sL ?_ | (refine sS ?_; clear H; intro _ H) | (refine sA ?_; clear H; intro _ _ H))
  go_loopw [1, 2, 7] (fun v1 v2 v7 wr => LaRel S p s mc bk (mc.lst q (S.dtx bk (i + 1))) i M w v1 v2 v7 wr) (fun v1 _ _ _ => (intOf v1).toNat)
  case atStart => exact ⟨T, i, q, 0, rfl, rfl, rfl, Nat.le_refl _, hq, hs, by omega, HT.out, H⟩
  case round =>
    clear H HT hs hq
    generalize mc.lst q (S.dtx bk (i + 1)) = res at *
    obtain ⟨T, j, q1, read, rfl, rfl, rfl, hj, hq1, hs1, hsum, hT, H⟩ := hrel
    have HT := Lib.hid hT
    obtain ⟨x, kd, lt, lf, rt, tm, hx, he, hcase⟩ := HC.out j (by omega)
    have HST := Lib.hid (store_t (S := S) (lv := lv) (m := m) (p := p) (s := s) (mc := mc) (bk := bk))
    have HRU := Lib.hid (rule_t (lv := lv) (m := m) (p := p) (s := s) (mc := mc) (bk := bk) hx he)
    clear hT hx he
    cases hcase with
    | letter b hb hd =>
      rw [hd] at hs1 hsum
      have h1 : mc.lst q1 [lt] = 1 := by
        have a := (mc.lst_zero q1 [lt])
        have b := mc.lst_le q1 [lt]
        simp at b
        omega
      have hrd : read + 1 = res := by omega
      have HRD := Lib.hid hrd
      clear hsum h1 hs1 hd HC
      go_wp2_with (first | refine sL ?_ | (refine sS ?_; clear H; intro _ H) | (refine sA ?_; clear H; intro _ _ H) | (go_at_call 44; with_reducible refine TQ.use (HST.out) HT.out H pk ts ?_; clear H; intro _ H) | (go_at_call 45; with_reducible refine TQ.use (HRU.out) HT.out H pk ts ?_; clear H; intro _ H))
      go_ret
      exact ⟨T, by rw [← HRD.out]; rfl, HT.out, (H.pick (A := tabA T) pk).onlyHead⟩
    | pair l r a b hl hr ha hb hv hd =>
      rw [hd] at hs1 hsum
      have hfa := mc.lst_append q1 (S.dtx bk (a + 1)) (S.dtx bk (b + 1))
      have hsa := mc.sum_append q1 (S.dtx bk (a + 1)) (S.dtx bk (b + 1))
      have hlt := HOK.out.ends_lt hq1 (dtx_lt HS.out bk (id := a + 1) (by omega))
      have HCH := Lib.hid (child_any (S := S) (lv := lv) (m := m) (p := p) (s := s) (mc := mc) hv)
      have HEN := Lib.hid (send_s (lv := lv) (m := m) (p := p) (s := s) (bk := bk) HS.out (i := a) (by omega) hq1)
      have HHI := Lib.hid (hit_s (lv := lv) (m := m) (p := p) (s := s) (bk := bk) HS.out (i := b) (by omega) hlt)
      have HSZ := Lib.hid (ssize_s (lv := lv) (m := m) (p := p) (s := s) (mc := mc) (bk := bk) HS.out (i := a) (by omega))
      have hla := dtx_len S bk (a + 1)
      by_cases hh : 0 < mc.sum (mc.ends q1 (S.dtx bk (a + 1))) (S.dtx bk (b + 1))
      · rw [if_neg (by omega)] at hfa
        rw [decide_eq_true hh] at HHI
        generalize mc.ends q1 (S.dtx bk (a + 1)) = q2 at *
        rw [hla] at hfa
        generalize hln : (S.txt (a + 1)).length = ln at *
        have hfb : 0 < mc.sum q2 (S.dtx bk (b + 1)) ∧ read + ln + mc.lst q2 (S.dtx bk (b + 1)) = res := by omega
        have HF := Lib.hid hfb
        have hlb : read + ln ≤ 1152921504606846976 := by omega
        clear hv hd hfa hsa hh hs1 hsum hla hln hfb
        go_wp2_with (first | refine sL ?_ | (refine sS ?_; clear H; intro _ H) | (refine sA ?_; clear H; intro _ _ H) | (go_at_call 44; with_reducible refine TQ.use (HST.out) HT.out H pk ts ?_; clear H; intro _ H) | (go_at_call 45; with_reducible refine TQ.use (HRU.out) HT.out H pk ts ?_; clear H; intro _ H) | (go_at_call 102; with_reducible refine TQ.use (HCH.out) HT.out H pk ts ?_; clear H; intro _ H) | (go_at_call 74; with_reducible refine TC.use (HHI.out) HT.out H pk ts ?_; clear H; intro T' _ HT H) | (go_at_call 36; with_reducible refine TQ.use (HSZ.out) HT.out H pk ts ?_; clear H; intro _ H) | (go_at_call 46; with_reducible refine TC.use (HEN.out) HT.out H pk ts ?_; clear H; intro T' _ HT H))
        have hrl : LaRel S p s mc bk res i M w (.int .i64 ((b : Int) + 1)) (.int .i64 q2) (.int .i64 ((read : Int) + ln)) _ := ⟨T', b, q2, read + ln, rfl, rfl, by go_num, by omega, hlt, HF.out.1, HF.out.2, HT.out, (H.pick (A := tabA T') pk).onlyHead⟩
        first | exact ⟨hrl, by simp [intOf]; omega⟩ | (refine ⟨?_, by simp [intOf]; omega⟩; (repeat apply Exists.intro); exact ⟨hrl, rfl⟩)
      · rw [if_pos (by omega)] at hfa
        rw [decide_eq_false hh] at HHI
        have hh2 : 0 < mc.sum q1 (S.dtx bk (a + 1)) := by omega
        have HF := Lib.hid (And.intro hh2 (hfa ▸ hsum))
        generalize mc.ends q1 (S.dtx bk (a + 1)) = q2 at *
        clear hv hd hfa hsa hlt HSZ hh hh2 hs1 hsum hla
        go_wp2_with (first | refine sL ?_ | (refine sS ?_; clear H; intro _ H) | (refine sA ?_; clear H; intro _ _ H) | (go_at_call 44; with_reducible refine TQ.use (HST.out) HT.out H pk ts ?_; clear H; intro _ H) | (go_at_call 45; with_reducible refine TQ.use (HRU.out) HT.out H pk ts ?_; clear H; intro _ H) | (go_at_call 102; with_reducible refine TQ.use (HCH.out) HT.out H pk ts ?_; clear H; intro _ H) | (go_at_call 74; with_reducible refine TC.use (HHI.out) HT.out H pk ts ?_; clear H; intro T' _ HT H) | (go_at_call 46; with_reducible refine TC.use (HEN.out) HT.out H pk ts ?_; clear H; intro T' _ HT H))
        have hrl : LaRel S p s mc bk res i M w (.int .i64 ((a : Int) + 1)) (.int .i64 q1) (.int .i64 read) _ := ⟨T', a, q1, read, rfl, rfl, rfl, by omega, hq1, HF.out.1, HF.out.2, HT.out, (H.pick (A := tabA T') pk).onlyHead⟩
        first | exact ⟨hrl, by simp [intOf]; omega⟩ | (refine ⟨?_, by simp [intOf]; omega⟩; (repeat apply Exists.intro); exact ⟨hrl, rfl⟩)
    | power l k hl hk hm hd =>
      rw [hd] at hs1 hsum
      have HSK := Lib.hid (lastCopy_s (lv := lv) (m := m) (p := p) (s := s) (bk := bk) HS.out (i := l) (by omega) hq1 hm (by omega))
      have HSZ := Lib.hid (ssize_s (lv := lv) (m := m) (p := p) (s := s) (mc := mc) (bk := bk) HS.out (i := l) (by omega))
      have hq2 : itr (S.stp mc bk (l + 1)) (lkC (S.stp mc bk (l + 1)) (S.hit mc bk (l + 1)) tm q1) q1 < mc.n := itr_lt (stp_lt HOK.out HS.out bk (by omega)) hq1
      obtain ⟨hct, hy, hfr⟩ := lst_copies hs1 rfl
      rw [dtx_len] at hfr
      generalize lkC (S.stp mc bk (l + 1)) (S.hit mc bk (l + 1)) tm q1 = c at *
      generalize itr (S.stp mc bk (l + 1)) c q1 = q2 at *
      generalize hln : (S.txt (l + 1)).length = ln at *
      have hp : (c : Int) * (ln : Int) = ((c * ln : Nat) : Int) := (Int.natCast_mul c ln).symm
      generalize c * ln = pr at *
      have hpb : read + pr ≤ 1152921504606846976 := by omega
      have hF : 0 < mc.sum q2 (S.dtx bk (l + 1)) ∧ read + pr + mc.lst q2 (S.dtx bk (l + 1)) = res := ⟨hy, by omega⟩
      have HF := Lib.hid hF
      clear hd hs1 hsum hct hy hfr hln hF
      go_wp2_with (first | refine sL ?_ | (refine sS ?_; clear H; intro _ H) | (refine sA ?_; clear H; intro _ _ H) | (go_at_call 44; with_reducible refine TQ.use (HST.out) HT.out H pk ts ?_; clear H; intro _ H) | (go_at_call 45; with_reducible refine TQ.use (HRU.out) HT.out H pk ts ?_; clear H; intro _ H) | (go_at_call 36; with_reducible refine TQ.use (HSZ.out) HT.out H pk ts ?_; clear H; intro _ H) | (go_at_call 77; with_reducible refine TC.use (HSK.out) HT.out H pk ts ?_; clear H; intro T' _ HT H))
      have hrl : LaRel S p s mc bk res i M w (.int .i64 ((l : Int) + 1)) (.int .i64 q2) (.int .i64 ((read : Int) + pr)) _ := ⟨T', l, q2, read + pr, rfl, rfl, by go_num, by omega, hq2, HF.out.1, HF.out.2, HT.out, (H.pick (A := tabA T') pk).onlyHead⟩
      first | exact ⟨hrl, by simp [intOf]; omega⟩ | (refine ⟨?_, by simp [intOf]; omega⟩; (repeat apply Exists.intro); exact ⟨hrl, rfl⟩)
theorem last_i {S : Sto} {lv : Value} {m p s : Nat} {mc : Mc} {bk : Bool} {id q : Nat} (hS : S.Ok) (h1 : 1 ≤ id) (hid : id ≤ S.list.length) (hq : q < mc.n) (hs : 0 < mc.sum q (S.dtx bk id)) :
    TC S lv m p s mc bk 78 #[.pointer (some ⟨p, 0, none⟩), .int .i64 id, .int .i64 q] (.int .i64 (mc.lst q (S.dtx bk id) : Nat)) := by
  obtain ⟨i, rfl⟩ : ∃ i, id = i + 1 := ⟨id - 1, by omega⟩
  exact last_t hS hid hq hs
end Go.Proofs.Ytijnhpaafhcndaa
end
section
namespace Go.Proofs.Ytijnhpaafhcndaa
open Go.RowKit Go.Maps
attribute [local go_sem] InGr
set_option maxHeartbeats 8000000
set_option maxRecDepth 100000
set_option linter.unusedSimpArgs false
set_option linter.unusedVariables false
theorem TQ.at {S : Sto} {lv : Value} {m p s : Nat} {mc : Mc} {bk : Bool} {f : FuncId} {args : Array Value} {v : Value} {T : Tab} {w : World} (hc : TQ S lv m p s mc bk f args v) (hT : TK S p s mc bk T) (h1 : (tabA T).ho w) (h2 : (stoA s lv m S).ho w) : Calls Try.prog f args w fun e w' => e = .returned v ∧ St w [] [] w' := hc T w hT h1 h2
def LsOk (S : Sto) (mc : Mc) (bk : Bool) (q0 : Nat) (a : List Nat) (pid ptm found before : Nat) : Prop :=
  (ptm = 0 ∧ mc.sum q0 a = 0) ∨ (1 ≤ ptm ∧ ptm ≤ 1152921504606846976 ∧ 1 ≤ pid ∧ pid ≤ S.list.length ∧ before < mc.n ∧ 0 < mc.sum before (rep ptm (S.dtx bk pid)) ∧ mc.lst q0 a = found + mc.lst before (rep ptm (S.dtx bk pid)) ∧ found + ptm * (S.txt pid).length ≤ a.length)
theorem skC_sum {S : Sto} {mc : Mc} {bk : Bool} {id k q : Nat} : skC (S.stp mc bk id) (S.hit mc bk id) k q < k ↔ 0 < mc.sum q (rep k (S.dtx bk id)) := by
  have hno := skC_no (f := S.stp mc bk id) (h := S.hit mc bk id) k q
  have hye := skC_yes (f := S.stp mc bk id) (h := S.hit mc bk id) k q
  have hle := skC_le (f := S.stp mc bk id) (h := S.hit mc bk id) k q
  constructor
  · intro h
    exact Nat.lt_of_lt_of_le (of_decide_eq_true (hye h)) (Mc.sum_rep_ge (m := mc) (q := q) (l := S.dtx bk id) h)
  · intro h
    rcases Nat.lt_or_ge (skC (S.stp mc bk id) (S.hit mc bk id) k q) k with h1 | h1
    · exact h1
    · have := Mc.sum_rep_zero (m := mc) (q := q) (k := k) (l := S.dtx bk id) fun c hc => by
        have := of_decide_eq_false (hno c (by omega))
        exact Nat.le_zero.1 (Nat.not_lt.1 this)
      omega
theorem LsOk.yes {S : Sto} {mc : Mc} {bk : Bool} {q0 : Nat} {a : List Nat} {ti tt q1 : Nat} (he : mc.ends q0 a = q1) (hq : q1 < mc.n) (h1 : 1 ≤ ti) (h2 : ti ≤ S.list.length) (ht : tt ≤ 1152921504606846976) (h : 0 < mc.sum q1 (rep tt (S.dtx bk ti))) :
    LsOk S mc bk q0 (a ++ rep tt (S.dtx bk ti)) ti tt a.length q1 := by
  refine .inr ⟨?_, ht, h1, h2, hq, h, ?_, ?_⟩
  · rcases Nat.eq_zero_or_pos tt with h0 | h0
    · subst h0
      rw [rep_zero] at h
      exact absurd h (Nat.lt_irrefl 0)
    · exact h0
  · rw [Mc.lst_append, he, if_neg (by omega)]
  · rw [List.length_append, rep_len, dtx_len]
    exact Nat.le_refl _
theorem LsOk.no {S : Sto} {mc : Mc} {bk : Bool} {q0 : Nat} {a : List Nat} {ti tt q1 pid ptm found before : Nat} (hl : LsOk S mc bk q0 a pid ptm found before) (he : mc.ends q0 a = q1) (h : mc.sum q1 (rep tt (S.dtx bk ti)) = 0) :
    LsOk S mc bk q0 (a ++ rep tt (S.dtx bk ti)) pid ptm found before := by
  rcases hl with ⟨h1, h2⟩ | ⟨h1, h2, h3, h4, h5, h6, h7, h8⟩
  · exact .inl ⟨h1, by rw [Mc.sum_append, h2, he, h]⟩
  · refine .inr ⟨h1, h2, h3, h4, h5, h6, ?_, ?_⟩
    · rw [Mc.lst_append, he, if_pos h, h7]
    · rw [List.length_append]; omega
def LsRel (S : Sto) (p s : Nat) (mc : Mc) (bk : Bool) (q0 : Nat) (lp : List Pt) (b9 : Nat) (M : List Nat) (w : World) (v2 v7 v8 v10 v19 : Value) (wr : World) : Prop :=
  ∃ (T : Tab) (j pid ppw ptm found before : Nat), v2 = .int .i64 (mc.ends q0 (runP S bk (lp.take j)) : Nat) ∧ v7 = .int .i64 ((runP S bk (lp.take j)).length : Nat) ∧ v8 = .int .i64 (found : Nat) ∧ v10 = .int .i64 (before : Nat) ∧ v19 = .int .i64 (j : Nat) ∧ j ≤ lp.length ∧ LsOk S mc bk q0 (runP S bk (lp.take j)) pid ptm found before ∧ TK S p s mc bk T ∧ St w M [tabA T, blk b9 (.cells #[.int .i64 pid, .int .i64 ppw, .int .i64 ptm] 135)] wr
attribute [local go_sem] StStep stAt stUpon in
theorem Last_x {S : Sto} {lv : Value} {m p s : Nat} {mc : Mc} {bk : Bool} {q : Nat} {ad : Option Addr} {c : Nat} {lp : List Pt} (hS : S.Ok) (hq : q < mc.n) (hlp : ∀ t ∈ lp, PtOk S (fun _ => True) t) (hlen : (runP S bk lp).length ≤ 1152921504606846976) :
    TX (ptsA ad c lp) S lv m p s mc bk 49 #[.pointer (some ⟨p, 0, none⟩), .slice ad lp.length c, .int .i64 q] (.int .i64 (mc.lst q (runP S bk lp) : Nat)) := by
  refine TX.mk fun T w M HT H HK => ?_
  obtain ⟨cm, ok⟩ := HT.out.mok
  have HQ : Hid (∀ j, mc.ends q (runP S bk (lp.take j)) < mc.n) := Lib.hid fun j => ok.ends_lt hq (runP_lt hS bk fun t ht => hlp t (List.mem_of_mem_take ht))
  have hll : lp.length ≤ 9223372036854775807 := by
    obtain ⟨_, _, _, hm⟩ := rowsA_shape (H.known HK (A := ptsA ad c lp) pk)
    unfold maxLen at hm; omega
  have HLP := Lib.hid hlp
  have HS := Lib.hid hS
  have HOK := Lib.hid ok
  clear hS hlp ok
  go_enter Try.func49, Try.ntmps49
  go_wp2_with (first | refine sL ?_ | (refine sA ?_; clear H; intro b9 _ H))
  go_loopw [2, 7, 8, 10, 19] (fun v2 v7 v8 v10 v19 wr => LsRel S p s mc bk q lp b9 M w v2 v7 v8 v10 v19 wr) (fun _ _ _ _ v19 _ => lp.length - (intOf v19).toNat)
  case atStart => exact ⟨T, 0, 0, 0, 0, 0, 0, rfl, rfl, rfl, rfl, rfl, Nat.zero_le _, .inl ⟨rfl, rfl⟩, HT.out, (H.pick2 (A := tabA T) (B := blk b9 (.cells #[.int .i64 0, .int .i64 0, .int .i64 0] 135)) pk pk).onlyTwo⟩
  case round =>
    clear H HT
    obtain ⟨T, j, pid, ppw, ptm, fo, bf, rfl, rfl, rfl, rfl, rfl, hj, hls, hT, H⟩ := hrel
    have HT := Lib.hid hT
    have hq1 := HQ.out j
    have HLS := Lib.hid hls
    clear hT hls
    by_cases hlt : j < lp.length
    · obtain ⟨⟨ti, tp, tt⟩, ht⟩ : ∃ t, lp[j]? = some t := ⟨_, List.getElem?_eq_getElem hlt⟩
      have hok := HLP.out _ (List.mem_of_getElem? ht)
      have htid : ti ≤ S.list.length := hok.le
      have hti1 : 1 ≤ ti := hok.pos
      have htb : tt ≤ 1152921504606846976 := ptok_times HS.out hok
      have hsp := runP_split (S := S) (bk := bk) ht
      have htk := runP_take S bk ht
      rw [ptTxt_dir] at htk
      simp only at hsp htk
      have hlj : (runP S bk (lp.take (j + 1))).length = (runP S bk (lp.take j)).length + tt * (S.txt ti).length := by rw [htk, List.length_append, rep_len, dtx_len]
      have hlall : (runP S bk (lp.take j)).length + tt * (S.txt ti).length ≤ 1152921504606846976 := by
        have := congrArg List.length hsp
        rw [List.length_append, List.length_append, rep_len, dtx_len] at this
        omega
      have hen : mc.ends q (runP S bk (lp.take (j + 1))) = itr (S.stp mc bk ti) tt (mc.ends q (runP S bk (lp.take j))) := by rw [htk, Mc.ends_append, ends_rep]; rfl
      have HSK := Lib.hid (skip_t (lv := lv) (m := m) (p := p) (s := s) (bk := bk) HS.out htid hq1 htb)
      have HFO := Lib.hid (follow_o (lv := lv) (m := m) (p := p) (s := s) (bk := bk) HS.out htid hq1 htb)
      have HSZ := Lib.hid (ssize_t (lv := lv) (m := m) (p := p) (s := s) (mc := mc) (bk := bk) HS.out htid)
      have hcl := skC_le (f := S.stp mc bk ti) (h := S.hit mc bk ti) tt (mc.ends q (runP S bk (lp.take j)))
      have hsk := skC_sum (S := S) (mc := mc) (bk := bk) (id := ti) (k := tt) (q := mc.ends q (runP S bk (lp.take j)))
      have hyes := fun h => LsOk.yes (S := S) (mc := mc) (bk := bk) (q0 := q) (a := runP S bk (lp.take j)) rfl hq1 hti1 htid htb h
      have hno := fun h => LsOk.no (tt := tt) (ti := ti) HLS.out rfl h
      rw [← htk] at hyes hno
      obtain ⟨gr, cr, hadr, _, _⟩ := rowsA_cases (H.known HK (A := ptsA ad c lp) pk) (by omega)
      injection hadr with x1 x2 x3
      subst x1 x3
      have HLK := Lib.hid ht
      clear ht x2 hok hsp htk
      generalize hqq : mc.ends q (runP S bk (lp.take j)) = q1 at *
      generalize skC (S.stp mc bk ti) (S.hit mc bk ti) tt q1 = cc at *
      generalize hrd : (runP S bk (lp.take j)).length = rd at *
      generalize hln : (S.txt ti).length = ln at *
      have hp : (tt : Int) * (ln : Int) = ((tt * ln : Nat) : Int) := (Int.natCast_mul tt ln).symm
      by_cases hct : cc < tt
      · have hnew := hyes (hsk.1 hct)
        have HREL : Hid (mc.ends q (runP S bk (lp.take (j + 1))) = itr (S.stp mc bk ti) tt q1 ∧ (runP S bk (lp.take (j + 1))).length = rd + tt * ln ∧ LsOk S mc bk q (runP S bk (lp.take (j + 1))) ti tt rd q1) := Lib.hid ⟨hen, hlj, hnew⟩
        generalize tt * ln = pr at *
        clear hnew hyes hno hsk hen hlj hqq hrd hln HLS
        have htt : tt ≤ 1152921504606846976 := htb
        go_wp2_with (first | refine sL ?_ | (refine sS ?_; clear H; intro _ H) | (refine sA ?_; clear H; intro b8 _ H) | ((with_reducible refine isLoad ?_); refine AtLoad.rngT (vs := [.int .i64 ti, .int .i64 tp, .int .i64 tt]) rfl rfl rfl (rowsA_rng (H.known HK (A := ptsA (some ⟨gr, 0, none⟩) c lp) pk) encT_len HLK.out) rfl ?_; simp only [Act.put, puA, puB, puC]) | (go_at_call 43; with_reducible refine TC.use (HSK.out) HT.out H pk ts ?_; clear H; intro T' _ HT H))
        have HT1 := HT
        replace H := H.only3 (A := tabA T') (B := blk b8 (.cells #[.int .i64 ti, .int .i64 tp, .int .i64 tt] 135)) (C := blk b9 (.cells #[.int .i64 ti, .int .i64 tp, .int .i64 tt] 135)) pk pk pk
        refine wp_region_sgx 10 [⟨[], fun v _ => v = .pointer (some ⟨p, 0, none⟩)⟩, ⟨[], fun v _ => v = .pointer (some ⟨b8, 0, none⟩)⟩, ⟨[1], fun v _ => v = .int .i64 ti⟩, ⟨[], fun v _ => v = .int .i64 q1⟩, ⟨[], fun v _ => v = .pointer (some ⟨b8, 2, none⟩)⟩, ⟨[4], fun v _ => v = .int .i64 tt⟩, ⟨[0, 2, 3, 5], fun _ _ => True⟩, ⟨[], fun v _ => v = .pointer (some ⟨b8, 2, none⟩)⟩, ⟨[7], fun v _ => v = .int .i64 tt⟩, ⟨[8], fun v _ => v = .int .i64 (itr (S.stp mc bk ti) tt q1 : Nat)⟩] [6] [[0], [0], [0], [0], [0], [0], [0], [0, 1], [0, 1], [1]] [fun _ wx => St w M [tabA T', blk b8 (.cells #[.int .i64 ti, .int .i64 tp, .int .i64 tt] 135), blk b9 (.cells #[.int .i64 ti, .int .i64 tp, .int .i64 tt] 135)] wx, fun vals wx => ∃ T2 ad c xs tail, vals 6 = .agg #[.slice ad xs.length c, .int .i64 (tail : Nat)] ∧ Orb (S.stp mc bk ti) q1 tt xs tail ∧ TK S p s mc bk T2 ∧ St w M [tabA T2, rowsA encI 3 1 (.slice ad xs.length c) xs, blk b8 (.cells #[.int .i64 ti, .int .i64 tp, .int .i64 tt] 135), blk b9 (.cells #[.int .i64 ti, .int .i64 tp, .int .i64 tt] 135)] wx]
          [[], [], [(1, 41)], [], [], [(4, 44)], [(0, 40), (2, 42), (3, 43), (5, 45)], [], [(7, 47)], [(6, 46), (8, 48)]] [(0, 40), (1, 41), (2, 42), (3, 43), (4, 44), (5, 45), (6, 46), (7, 47), (8, 48), (9, 49)] (by kernel_rfl) (by kernel_rfl) H.drew ⟨⟨?x0s0, trivial⟩, ⟨?x1s0, trivial⟩, ⟨?x2s0, trivial⟩, ⟨?x3s0, trivial⟩, ⟨?x4s0, trivial⟩, ⟨?x5s0, trivial⟩, ⟨?x6s0, trivial⟩, ⟨?x7s0, ?x7s1, trivial⟩, ⟨?x8s0, ?x8s1, trivial⟩, ⟨?x9s1, trivial⟩, trivial⟩ ?xfin
        case x0s0 =>
          intro vals wx hd HC
          clear hd
          simp only [putS, List.foldl_nil]
          go_simp
          first | exact HC | exact ⟨rfl, HC⟩ | exact ⟨IntWalk.i64_in _ (by omega), HC⟩
        case x1s0 =>
          intro vals wx hd HC
          clear hd
          simp only [putS, List.foldl_nil]
          go_simp
          first | exact HC | exact ⟨rfl, HC⟩ | exact ⟨IntWalk.i64_in _ (by omega), HC⟩
        case x2s0 =>
          intro vals wx hd HC
          have h1 : vals 1 = .pointer (some ⟨b8, 0, none⟩) := hd.1
          clear hd
          have HC' := HC
          simp only [cAt, List.getD_cons_succ, List.getD_cons_zero] at HC'
          have H := HC'; clear HC'
          simp only [putS, List.foldl_nil, List.foldl_cons, Act.put, List.setIfInBounds_toArray, List.set_cons_zero, List.set_cons_succ, h1]
          first | refine StStep.cellT rfl rfl rfl gt rfl rfl ⟨rfl, HC⟩ | refine StStep.wholeT rfl rfl rfl gt rfl ⟨rfl, HC⟩
        case x3s0 =>
          intro vals wx hd HC
          clear hd
          simp only [putS, List.foldl_nil]
          go_simp
          first | exact HC | exact ⟨rfl, HC⟩ | exact ⟨IntWalk.i64_in _ (by omega), HC⟩
        case x4s0 =>
          intro vals wx hd HC
          clear hd
          simp only [putS, List.foldl_nil]
          go_simp
          first | exact HC | exact ⟨rfl, HC⟩ | exact ⟨IntWalk.i64_in _ (by omega), HC⟩
        case x5s0 =>
          intro vals wx hd HC
          have h4 : vals 4 = .pointer (some ⟨b8, 2, none⟩) := hd.1
          clear hd
          have HC' := HC
          simp only [cAt, List.getD_cons_succ, List.getD_cons_zero] at HC'
          have H := HC'; clear HC'
          simp only [putS, List.foldl_nil, List.foldl_cons, Act.put, List.setIfInBounds_toArray, List.set_cons_zero, List.set_cons_succ, h4]
          first | refine StStep.cellT rfl rfl rfl gt rfl rfl ⟨rfl, HC⟩ | refine StStep.wholeT rfl rfl rfl gt rfl ⟨rfl, HC⟩
        case x6s0 =>
          intro vals wx hd HC
          have h0 : vals 0 = .pointer (some ⟨p, 0, none⟩) := hd.1
          have h2 : vals 2 = .int .i64 ti := hd.2.1
          have h3 : vals 3 = .int .i64 q1 := hd.2.2.1
          have h5 : vals 5 = .int .i64 tt := hd.2.2.2.1
          clear hd
          have HC' := HC
          simp only [cAt, List.getD_cons_succ, List.getD_cons_zero] at HC'
          have H := HC'; clear HC'
          simp only [putS, List.foldl_nil, List.foldl_cons, Act.put, List.setIfInBounds_toArray, List.set_cons_zero, List.set_cons_succ, h0, h2, h3, h5]
          clear h0 h2 h3 h5 HC
          go_simp
          with_reducible refine TO.use HFO.out HT1.out H pk ts ?_
          intro T2 ad2 c2 xs tail _ HT2 HO H
          first | exact ⟨_, rfl, T2, ad2, c2, xs, tail, rfl, HO.out, HT2.out, H⟩ | exact ⟨_, rfl, trivial, T2, ad2, c2, xs, tail, rfl, HO.out, HT2.out, H⟩
        case x7s0 =>
          intro vals wx hd HC
          clear hd
          simp only [putS, List.foldl_nil]
          go_simp
          first | exact HC | exact ⟨rfl, HC⟩ | exact ⟨IntWalk.i64_in _ (by omega), HC⟩
        case x7s1 =>
          intro vals wx hd HC
          clear hd
          simp only [putS, List.foldl_nil]
          go_simp
          first | exact HC | exact ⟨rfl, HC⟩ | exact ⟨IntWalk.i64_in _ (by omega), HC⟩
        case x8s0 =>
          intro vals wx hd HC
          have h7 : vals 7 = .pointer (some ⟨b8, 2, none⟩) := hd.1
          clear hd
          have HC' := HC
          simp only [cAt, List.getD_cons_succ, List.getD_cons_zero] at HC'
          have H := HC'; clear HC'
          simp only [putS, List.foldl_nil, List.foldl_cons, Act.put, List.setIfInBounds_toArray, List.set_cons_zero, List.set_cons_succ, h7]
          first | refine StStep.cellT rfl rfl rfl gt rfl rfl ⟨rfl, HC⟩ | refine StStep.wholeT rfl rfl rfl gt rfl ⟨rfl, HC⟩
        case x8s1 =>
          intro vals wx hd HC
          have h7 : vals 7 = .pointer (some ⟨b8, 2, none⟩) := hd.1
          clear hd
          have HC' := HC
          simp only [cAt, List.getD_cons_succ, List.getD_cons_zero] at HC'
          obtain ⟨T2, ad2, c2, xs, tail, hv6, horb, hT2, H⟩ := HC'
          simp only [putS, List.foldl_nil, List.foldl_cons, Act.put, List.setIfInBounds_toArray, List.set_cons_zero, List.set_cons_succ, h7]
          first | refine StStep.cellT rfl rfl rfl gt rfl rfl ⟨rfl, HC⟩ | refine StStep.wholeT rfl rfl rfl gt rfl ⟨rfl, HC⟩
        case x9s1 =>
          intro vals wx hd HC
          have h8 : vals 8 = .int .i64 tt := hd.1
          clear hd
          have HC' := HC
          simp only [cAt, List.getD_cons_succ, List.getD_cons_zero] at HC'
          obtain ⟨T2, ad2, c2, xs, tail, hv6, horb, hT2, H⟩ := HC'
          simp only [putS, List.foldl_nil, List.foldl_cons, Act.put, List.setIfInBounds_toArray, List.set_cons_zero, List.set_cons_succ, h8]
          simp only [hv6]
          clear h8
          go_simp
          refine at_use rfl horb (Nat.le_refl _) htb H (H.get (A := rowsA encI 3 1 (.slice ad2 xs.length c2) xs) pk) ?_
          intro _ H
          exact ⟨_, rfl, rfl, T2, ad2, c2, xs, tail, hv6, horb, hT2, H⟩
        intro vals wx hd HC
        have h0 : vals 0 = .pointer (some ⟨p, 0, none⟩) := hd.1
        have h1 : vals 1 = .pointer (some ⟨b8, 0, none⟩) := hd.2.1
        have h2 : vals 2 = .int .i64 ti := hd.2.2.1
        have h3 : vals 3 = .int .i64 q1 := hd.2.2.2.1
        have h4 : vals 4 = .pointer (some ⟨b8, 2, none⟩) := hd.2.2.2.2.1
        have h5 : vals 5 = .int .i64 tt := hd.2.2.2.2.2.1
        have h7 : vals 7 = .pointer (some ⟨b8, 2, none⟩) := hd.2.2.2.2.2.2.2.1
        have h8 : vals 8 = .int .i64 tt := hd.2.2.2.2.2.2.2.2.1
        have h9 : vals 9 = .int .i64 (itr (S.stp mc bk ti) tt q1 : Nat) := hd.2.2.2.2.2.2.2.2.2.1
        clear hd
        simp only [cAt, List.getD_cons_succ, List.getD_cons_zero, List.length_cons, List.length_nil] at HC
        obtain ⟨T2, ad2, c2, xs, tail, hv6, horb, hT2, H⟩ := HC
        simp only [putS, List.foldl_nil, List.foldl_cons, Act.put, List.setIfInBounds_toArray, List.set_cons_zero, List.set_cons_succ, List.drop_succ_cons, List.drop_zero, h0, h1, h2, h3, h4, h5, h7, h8, h9]
        clear h0 h1 h2 h3 h4 h5 h7 h8 h9
        go_wp2_with (first | refine sL ?_ | (refine sS ?_; clear H; intro _ H) | (refine sA ?_; clear H; intro _ _ H))
        have HT2 := Lib.hid hT2
        refine wp_region_h H 10 [] [] (by kernel_rfl) (by kernel_rfl) ?_
        apply Exists.intro
        refine ⟨fun w1 hw1 HX => ?_, fun bs wr Hr => ?_⟩
        · refine sG ?_
          repeat (first | refine sQ ?_ | go_big_quiet_step ((go_at_call 36; with_reducible exact quiet_st_x (TQ.at HSZ.out HT2.out ((HX _).get (A := tabA T2) pk) ((HX _).known HK pk)))) | go_big_quiet_step (fail))
          exact wpQuiet_nil rfl
        clear H
        have H := Hr
        clear Hr
        replace H := sH H; refine sT ?_
        go_wp2_with (first | refine sL ?_ | (refine sS ?_; clear H; intro _ H) | (refine sA ?_; clear H; intro _ _ H))
        have hrl : LsRel S p s mc bk q lp b9 M w (.int .i64 (itr (S.stp mc bk ti) tt q1 : Nat)) (.int .i64 ((rd : Int) + pr)) (.int .i64 (rd : Nat)) (.int .i64 (q1 : Nat)) (.int .i64 ((j : Int) + 1)) _ := ⟨T2, j + 1, ti, tp, tt, rd, q1, by rw [HREL.out.1], by rw [HREL.out.2.1]; go_num, rfl, rfl, by go_num, by omega, HREL.out.2.2, HT2.out, (H.pick2 (A := tabA T2) (B := blk b9 (.cells #[.int .i64 ti, .int .i64 tp, .int .i64 tt] 135)) pk pk).onlyTwo⟩
        first | exact ⟨hrl, by simp [intOf]; omega⟩ | (refine ⟨?_, by simp [intOf]; omega⟩; (repeat apply Exists.intro); exact ⟨hrl, rfl⟩)
      · have hz : mc.sum q1 (rep tt (S.dtx bk ti)) = 0 := by
          have := fun h => hct (hsk.2 h)
          exact Nat.le_zero.1 (Nat.not_lt.1 this)
        have hnew := hno hz
        have HREL : Hid (mc.ends q (runP S bk (lp.take (j + 1))) = itr (S.stp mc bk ti) tt q1 ∧ (runP S bk (lp.take (j + 1))).length = rd + tt * ln ∧ LsOk S mc bk q (runP S bk (lp.take (j + 1))) pid ptm fo bf) := Lib.hid ⟨hen, hlj, hnew⟩
        generalize tt * ln = pr at *
        clear hnew hyes hno hsk hen hlj hqq hrd hln hz HLS
        have htt : tt ≤ 1152921504606846976 := htb
        go_wp2_with (first | refine sL ?_ | (refine sS ?_; clear H; intro _ H) | (refine sA ?_; clear H; intro b8 _ H) | ((with_reducible refine isLoad ?_); refine AtLoad.rngT (vs := [.int .i64 ti, .int .i64 tp, .int .i64 tt]) rfl rfl rfl (rowsA_rng (H.known HK (A := ptsA (some ⟨gr, 0, none⟩) c lp) pk) encT_len HLK.out) rfl ?_; simp only [Act.put, puA, puB, puC]) | (go_at_call 43; with_reducible refine TC.use (HSK.out) HT.out H pk ts ?_; clear H; intro T' _ HT H))
        have HT1 := HT
        replace H := H.only3 (A := tabA T') (B := blk b8 (.cells #[.int .i64 ti, .int .i64 tp, .int .i64 tt] 135)) (C := blk b9 (.cells #[.int .i64 pid, .int .i64 ppw, .int .i64 ptm] 135)) pk pk pk
        refine wp_region_sgx 10 [⟨[], fun v _ => v = .pointer (some ⟨p, 0, none⟩)⟩, ⟨[], fun v _ => v = .pointer (some ⟨b8, 0, none⟩)⟩, ⟨[1], fun v _ => v = .int .i64 ti⟩, ⟨[], fun v _ => v = .int .i64 q1⟩, ⟨[], fun v _ => v = .pointer (some ⟨b8, 2, none⟩)⟩, ⟨[4], fun v _ => v = .int .i64 tt⟩, ⟨[0, 2, 3, 5], fun _ _ => True⟩, ⟨[], fun v _ => v = .pointer (some ⟨b8, 2, none⟩)⟩, ⟨[7], fun v _ => v = .int .i64 tt⟩, ⟨[8], fun v _ => v = .int .i64 (itr (S.stp mc bk ti) tt q1 : Nat)⟩] [6] [[0], [0], [0], [0], [0], [0], [0], [0, 1], [0, 1], [1]] [fun _ wx => St w M [tabA T', blk b8 (.cells #[.int .i64 ti, .int .i64 tp, .int .i64 tt] 135), blk b9 (.cells #[.int .i64 pid, .int .i64 ppw, .int .i64 ptm] 135)] wx, fun vals wx => ∃ T2 ad c xs tail, vals 6 = .agg #[.slice ad xs.length c, .int .i64 (tail : Nat)] ∧ Orb (S.stp mc bk ti) q1 tt xs tail ∧ TK S p s mc bk T2 ∧ St w M [tabA T2, rowsA encI 3 1 (.slice ad xs.length c) xs, blk b8 (.cells #[.int .i64 ti, .int .i64 tp, .int .i64 tt] 135), blk b9 (.cells #[.int .i64 pid, .int .i64 ppw, .int .i64 ptm] 135)] wx]
          [[], [], [(1, 41)], [], [], [(4, 44)], [(0, 40), (2, 42), (3, 43), (5, 45)], [], [(7, 47)], [(6, 46), (8, 48)]] [(0, 40), (1, 41), (2, 42), (3, 43), (4, 44), (5, 45), (6, 46), (7, 47), (8, 48), (9, 49)] (by kernel_rfl) (by kernel_rfl) H.drew ⟨⟨?y0s0, trivial⟩, ⟨?y1s0, trivial⟩, ⟨?y2s0, trivial⟩, ⟨?y3s0, trivial⟩, ⟨?y4s0, trivial⟩, ⟨?y5s0, trivial⟩, ⟨?y6s0, trivial⟩, ⟨?y7s0, ?y7s1, trivial⟩, ⟨?y8s0, ?y8s1, trivial⟩, ⟨?y9s1, trivial⟩, trivial⟩ ?yfin
        case y0s0 =>
          intro vals wx hd HC
          clear hd
          simp only [putS, List.foldl_nil]
          go_simp
          first | exact HC | exact ⟨rfl, HC⟩ | exact ⟨IntWalk.i64_in _ (by omega), HC⟩
        case y1s0 =>
          intro vals wx hd HC
          clear hd
          simp only [putS, List.foldl_nil]
          go_simp
          first | exact HC | exact ⟨rfl, HC⟩ | exact ⟨IntWalk.i64_in _ (by omega), HC⟩
        case y2s0 =>
          intro vals wx hd HC
          have h1 : vals 1 = .pointer (some ⟨b8, 0, none⟩) := hd.1
          clear hd
          have HC' := HC
          simp only [cAt, List.getD_cons_succ, List.getD_cons_zero] at HC'
          have H := HC'; clear HC'
          simp only [putS, List.foldl_nil, List.foldl_cons, Act.put, List.setIfInBounds_toArray, List.set_cons_zero, List.set_cons_succ, h1]
          first | refine StStep.cellT rfl rfl rfl gt rfl rfl ⟨rfl, HC⟩ | refine StStep.wholeT rfl rfl rfl gt rfl ⟨rfl, HC⟩
        case y3s0 =>
          intro vals wx hd HC
          clear hd
          simp only [putS, List.foldl_nil]
          go_simp
          first | exact HC | exact ⟨rfl, HC⟩ | exact ⟨IntWalk.i64_in _ (by omega), HC⟩
        case y4s0 =>
          intro vals wx hd HC
          clear hd
          simp only [putS, List.foldl_nil]
          go_simp
          first | exact HC | exact ⟨rfl, HC⟩ | exact ⟨IntWalk.i64_in _ (by omega), HC⟩
        case y5s0 =>
          intro vals wx hd HC
          have h4 : vals 4 = .pointer (some ⟨b8, 2, none⟩) := hd.1
          clear hd
          have HC' := HC
          simp only [cAt, List.getD_cons_succ, List.getD_cons_zero] at HC'
          have H := HC'; clear HC'
          simp only [putS, List.foldl_nil, List.foldl_cons, Act.put, List.setIfInBounds_toArray, List.set_cons_zero, List.set_cons_succ, h4]
          first | refine StStep.cellT rfl rfl rfl gt rfl rfl ⟨rfl, HC⟩ | refine StStep.wholeT rfl rfl rfl gt rfl ⟨rfl, HC⟩
        case y6s0 =>
          intro vals wx hd HC
          have h0 : vals 0 = .pointer (some ⟨p, 0, none⟩) := hd.1
          have h2 : vals 2 = .int .i64 ti := hd.2.1
          have h3 : vals 3 = .int .i64 q1 := hd.2.2.1
          have h5 : vals 5 = .int .i64 tt := hd.2.2.2.1
          clear hd
          have HC' := HC
          simp only [cAt, List.getD_cons_succ, List.getD_cons_zero] at HC'
          have H := HC'; clear HC'
          simp only [putS, List.foldl_nil, List.foldl_cons, Act.put, List.setIfInBounds_toArray, List.set_cons_zero, List.set_cons_succ, h0, h2, h3, h5]
          clear h0 h2 h3 h5 HC
          go_simp
          with_reducible refine TO.use HFO.out HT1.out H pk ts ?_
          intro T2 ad2 c2 xs tail _ HT2 HO H
          first | exact ⟨_, rfl, T2, ad2, c2, xs, tail, rfl, HO.out, HT2.out, H⟩ | exact ⟨_, rfl, trivial, T2, ad2, c2, xs, tail, rfl, HO.out, HT2.out, H⟩
        case y7s0 =>
          intro vals wx hd HC
          clear hd
          simp only [putS, List.foldl_nil]
          go_simp
          first | exact HC | exact ⟨rfl, HC⟩ | exact ⟨IntWalk.i64_in _ (by omega), HC⟩
        case y7s1 =>
          intro vals wx hd HC
          clear hd
          simp only [putS, List.foldl_nil]
          go_simp
          first | exact HC | exact ⟨rfl, HC⟩ | exact ⟨IntWalk.i64_in _ (by omega), HC⟩
        case y8s0 =>
          intro vals wx hd HC
          have h7 : vals 7 = .pointer (some ⟨b8, 2, none⟩) := hd.1
          clear hd
          have HC' := HC
          simp only [cAt, List.getD_cons_succ, List.getD_cons_zero] at HC'
          have H := HC'; clear HC'
          simp only [putS, List.foldl_nil, List.foldl_cons, Act.put, List.setIfInBounds_toArray, List.set_cons_zero, List.set_cons_succ, h7]
          first | refine StStep.cellT rfl rfl rfl gt rfl rfl ⟨rfl, HC⟩ | refine StStep.wholeT rfl rfl rfl gt rfl ⟨rfl, HC⟩
        case y8s1 =>
          intro vals wx hd HC
          have h7 : vals 7 = .pointer (some ⟨b8, 2, none⟩) := hd.1
          clear hd
          have HC' := HC
          simp only [cAt, List.getD_cons_succ, List.getD_cons_zero] at HC'
          obtain ⟨T2, ad2, c2, xs, tail, hv6, horb, hT2, H⟩ := HC'
          simp only [putS, List.foldl_nil, List.foldl_cons, Act.put, List.setIfInBounds_toArray, List.set_cons_zero, List.set_cons_succ, h7]
          first | refine StStep.cellT rfl rfl rfl gt rfl rfl ⟨rfl, HC⟩ | refine StStep.wholeT rfl rfl rfl gt rfl ⟨rfl, HC⟩
        case y9s1 =>
          intro vals wx hd HC
          have h8 : vals 8 = .int .i64 tt := hd.1
          clear hd
          have HC' := HC
          simp only [cAt, List.getD_cons_succ, List.getD_cons_zero] at HC'
          obtain ⟨T2, ad2, c2, xs, tail, hv6, horb, hT2, H⟩ := HC'
          simp only [putS, List.foldl_nil, List.foldl_cons, Act.put, List.setIfInBounds_toArray, List.set_cons_zero, List.set_cons_succ, h8]
          simp only [hv6]
          clear h8
          go_simp
          refine at_use rfl horb (Nat.le_refl _) htb H (H.get (A := rowsA encI 3 1 (.slice ad2 xs.length c2) xs) pk) ?_
          intro _ H
          exact ⟨_, rfl, rfl, T2, ad2, c2, xs, tail, hv6, horb, hT2, H⟩
        intro vals wx hd HC
        have h0 : vals 0 = .pointer (some ⟨p, 0, none⟩) := hd.1
        have h1 : vals 1 = .pointer (some ⟨b8, 0, none⟩) := hd.2.1
        have h2 : vals 2 = .int .i64 ti := hd.2.2.1
        have h3 : vals 3 = .int .i64 q1 := hd.2.2.2.1
        have h4 : vals 4 = .pointer (some ⟨b8, 2, none⟩) := hd.2.2.2.2.1
        have h5 : vals 5 = .int .i64 tt := hd.2.2.2.2.2.1
        have h7 : vals 7 = .pointer (some ⟨b8, 2, none⟩) := hd.2.2.2.2.2.2.2.1
        have h8 : vals 8 = .int .i64 tt := hd.2.2.2.2.2.2.2.2.1
        have h9 : vals 9 = .int .i64 (itr (S.stp mc bk ti) tt q1 : Nat) := hd.2.2.2.2.2.2.2.2.2.1
        clear hd
        simp only [cAt, List.getD_cons_succ, List.getD_cons_zero, List.length_cons, List.length_nil] at HC
        obtain ⟨T2, ad2, c2, xs, tail, hv6, horb, hT2, H⟩ := HC
        simp only [putS, List.foldl_nil, List.foldl_cons, Act.put, List.setIfInBounds_toArray, List.set_cons_zero, List.set_cons_succ, List.drop_succ_cons, List.drop_zero, h0, h1, h2, h3, h4, h5, h7, h8, h9]
        clear h0 h1 h2 h3 h4 h5 h7 h8 h9
        go_wp2_with (first | refine sL ?_ | (refine sS ?_; clear H; intro _ H) | (refine sA ?_; clear H; intro _ _ H))
        have HT2 := Lib.hid hT2
        refine wp_region_h H 10 [] [] (by kernel_rfl) (by kernel_rfl) ?_
        apply Exists.intro
        refine ⟨fun w1 hw1 HX => ?_, fun bs wr Hr => ?_⟩
        · refine sG ?_
          repeat (first | refine sQ ?_ | go_big_quiet_step ((go_at_call 36; with_reducible exact quiet_st_x (TQ.at HSZ.out HT2.out ((HX _).get (A := tabA T2) pk) ((HX _).known HK pk)))) | go_big_quiet_step (fail))
          exact wpQuiet_nil rfl
        clear H
        have H := Hr
        clear Hr
        replace H := sH H; refine sT ?_
        go_wp2_with (first | refine sL ?_ | (refine sS ?_; clear H; intro _ H) | (refine sA ?_; clear H; intro _ _ H))
        have hrl : LsRel S p s mc bk q lp b9 M w (.int .i64 (itr (S.stp mc bk ti) tt q1 : Nat)) (.int .i64 ((rd : Int) + pr)) (.int .i64 (fo : Nat)) (.int .i64 (bf : Nat)) (.int .i64 ((j : Int) + 1)) _ := ⟨T2, j + 1, pid, ppw, ptm, fo, bf, by rw [HREL.out.1], by rw [HREL.out.2.1]; go_num, rfl, rfl, by go_num, by omega, HREL.out.2.2, HT2.out, (H.pick2 (A := tabA T2) (B := blk b9 (.cells #[.int .i64 pid, .int .i64 ppw, .int .i64 ptm] 135)) pk pk).onlyTwo⟩
        first | exact ⟨hrl, by simp [intOf]; omega⟩ | (refine ⟨?_, by simp [intOf]; omega⟩; (repeat apply Exists.intro); exact ⟨hrl, rfl⟩)
    · obtain rfl : j = lp.length := by omega
      have hls := HLS.out
      rw [List.take_length] at hls
      have hres := mc.lst_le q (runP S bk lp)
      rcases hls with ⟨rfl, hz⟩ | ⟨g1, g2, g3, g4, g5, g6, g7, g8⟩
      · have HZ := Lib.hid ((Mc.lst_zero q (runP S bk lp)).2 hz)
        clear hz hres
        go_wp2_with (first | refine sL ?_ | (refine sS ?_; clear H; intro _ H) | (refine sA ?_; clear H; intro _ _ H))
        go_ret
        exact ⟨T, by rw [HZ.out]; rfl, HT.out, (H.pick (A := tabA T) pk).onlyHead⟩
      · have HLC := Lib.hid (lastCopy_t (lv := lv) (m := m) (p := p) (s := s) (bk := bk) HS.out g4 g5 g2 g1)
        have HSZ := Lib.hid (ssize_t (lv := lv) (m := m) (p := p) (s := s) (mc := mc) (bk := bk) HS.out g4)
        obtain ⟨c1, c2, c3⟩ := lst_copies g6 rfl
        have hq2 : itr (S.stp mc bk pid) (lkC (S.stp mc bk pid) (S.hit mc bk pid) ptm bf) bf < mc.n := itr_lt (stp_lt HOK.out HS.out bk g4) g5
        have HLA := Lib.hid (last_i (lv := lv) (m := m) (p := p) (s := s) HS.out g3 g4 hq2 c2)
        rw [dtx_len] at c3
        generalize hcc : lkC (S.stp mc bk pid) (S.hit mc bk pid) ptm bf = cc at *
        generalize hq2e : itr (S.stp mc bk pid) cc bf = q2 at *
        generalize hla : mc.lst q2 (S.dtx bk pid) = la at *
        generalize hln : (S.txt pid).length = ln at *
        have hp : (cc : Int) * (ln : Int) = ((cc * ln : Nat) : Int) := (Int.natCast_mul cc ln).symm
        have hpl : cc * ln ≤ ptm * ln := Nat.mul_le_mul_right ln (by omega)
        have HRES : Hid (mc.lst q (runP S bk lp) = fo + cc * ln + la) := Lib.hid (by omega)
        have hb1 : fo + cc * ln + la ≤ 1152921504606846976 := by have := HRES.out; omega
        generalize cc * ln = pr at *
        have hz0 : ((ptm : Int) == 0) = false := by simp; omega
        clear c1 c2 c3 hq2 hcc hq2e hla hln hpl hres g1 g3 g5 g6 g7 g8 HLS
        go_wp2_with (first | refine sL ?_ | (refine sS ?_; clear H; intro _ H) | (refine sA ?_; clear H; intro _ _ H) | (go_at_call 77; with_reducible refine TC.use (HLC.out) HT.out H pk ts ?_; clear H; intro T' _ HT H))
        have HT1 := HT
        replace H := (H.pick2 (A := tabA T') (B := blk b9 (.cells #[.int .i64 pid, .int .i64 ppw, .int .i64 ptm] 135)) pk pk).onlyTwo
        refine wp_region_sgx 14 [⟨[], fun v _ => v = .int .i64 (fo : Nat)⟩, ⟨[], fun v _ => v = .int .i64 (cc : Nat)⟩, ⟨[], fun v _ => v = .pointer (some ⟨p, 0, none⟩)⟩, ⟨[], fun v _ => v = .pointer (some ⟨b9, 0, none⟩)⟩, ⟨[3], fun v _ => v = .int .i64 pid⟩, ⟨[2, 4], fun v _ => v = .int .i64 (ln : Nat)⟩, ⟨[1, 5], fun v _ => v = .int .i64 (pr : Nat)⟩, ⟨[0, 6], fun v _ => v = .int .i64 ((fo : Int) + pr)⟩, ⟨[], fun v _ => v = .pointer (some ⟨p, 0, none⟩)⟩, ⟨[], fun v _ => v = .pointer (some ⟨b9, 0, none⟩)⟩, ⟨[9], fun v _ => v = .int .i64 pid⟩, ⟨[], fun v _ => v = .int .i64 q2⟩, ⟨[8, 10, 11], fun v _ => v = .int .i64 (la : Nat)⟩, ⟨[7, 12], fun v _ => v = .int .i64 ((fo : Int) + pr + la)⟩] [12] [[0, 1], [0, 1], [0], [0], [0], [0], [0, 1], [0, 1], [0], [0], [0], [0], [0], [1]] [fun _ wx => St w M [tabA T', blk b9 (.cells #[.int .i64 pid, .int .i64 ppw, .int .i64 ptm] 135)] wx, fun _ wx => ∃ T2, TK S p s mc bk T2 ∧ St w M [tabA T2, blk b9 (.cells #[.int .i64 pid, .int .i64 ppw, .int .i64 ptm] 135)] wx]
          [[], [], [], [], [(3, 76)], [(2, 75), (4, 77)], [(1, 74), (5, 78)], [(0, 73), (6, 79)], [], [], [(9, 82)], [], [(8, 81), (10, 83), (11, 84)], [(7, 80), (12, 85)]] [(0, 73), (1, 74), (2, 75), (3, 76), (4, 77), (5, 78), (6, 79), (7, 80), (8, 81), (9, 82), (10, 83), (11, 84), (12, 85), (13, 86)] (by kernel_rfl) (by kernel_rfl) H.drew ⟨⟨?z0s0, ?z0s1, trivial⟩, ⟨?z1s0, ?z1s1, trivial⟩, ⟨?z2s0, trivial⟩, ⟨?z3s0, trivial⟩, ⟨?z4s0, trivial⟩, ⟨?z5s0, trivial⟩, ⟨?z6s0, ?z6s1, trivial⟩, ⟨?z7s0, ?z7s1, trivial⟩, ⟨?z8s0, trivial⟩, ⟨?z9s0, trivial⟩, ⟨?z10s0, trivial⟩, ⟨?z11s0, trivial⟩, ⟨?z12s0, trivial⟩, ⟨?z13s1, trivial⟩, trivial⟩ ?zfin
        case z0s0 =>
          intro vals wx hd HC
          clear hd
          simp only [putS, List.foldl_nil]
          go_simp
          first | exact HC | exact ⟨rfl, HC⟩ | exact ⟨IntWalk.i64_in _ (by omega), HC⟩
        case z0s1 =>
          intro vals wx hd HC
          clear hd
          simp only [putS, List.foldl_nil]
          go_simp
          first | exact HC | exact ⟨rfl, HC⟩ | exact ⟨IntWalk.i64_in _ (by omega), HC⟩
        case z1s0 =>
          intro vals wx hd HC
          clear hd
          simp only [putS, List.foldl_nil]
          go_simp
          first | exact HC | exact ⟨rfl, HC⟩ | exact ⟨IntWalk.i64_in _ (by omega), HC⟩
        case z1s1 =>
          intro vals wx hd HC
          clear hd
          simp only [putS, List.foldl_nil]
          go_simp
          first | exact HC | exact ⟨rfl, HC⟩ | exact ⟨IntWalk.i64_in _ (by omega), HC⟩
        case z2s0 =>
          intro vals wx hd HC
          clear hd
          simp only [putS, List.foldl_nil]
          go_simp
          first | exact HC | exact ⟨rfl, HC⟩ | exact ⟨IntWalk.i64_in _ (by omega), HC⟩
        case z3s0 =>
          intro vals wx hd HC
          clear hd
          simp only [putS, List.foldl_nil]
          go_simp
          first | exact HC | exact ⟨rfl, HC⟩ | exact ⟨IntWalk.i64_in _ (by omega), HC⟩
        case z4s0 =>
          intro vals wx hd HC
          have h3 : vals 3 = .pointer (some ⟨b9, 0, none⟩) := hd.1
          clear hd
          have HC' := HC
          simp only [cAt, List.getD_cons_succ, List.getD_cons_zero] at HC'
          have H := HC'; clear HC'
          simp only [putS, List.foldl_nil, List.foldl_cons, Act.put, List.setIfInBounds_toArray, List.set_cons_zero, List.set_cons_succ, h3]
          first | refine StStep.cellT rfl rfl rfl gt rfl rfl ⟨rfl, HC⟩ | refine StStep.wholeT rfl rfl rfl gt rfl ⟨rfl, HC⟩
        case z5s0 =>
          intro vals wx hd HC
          have h2 : vals 2 = .pointer (some ⟨p, 0, none⟩) := hd.1
          have h4 : vals 4 = .int .i64 pid := hd.2.1
          clear hd
          have HC' := HC
          simp only [cAt, List.getD_cons_succ, List.getD_cons_zero] at HC'
          have H := HC'; clear HC'
          simp only [putS, List.foldl_nil, List.foldl_cons, Act.put, List.setIfInBounds_toArray, List.set_cons_zero, List.set_cons_succ, h2, h4]
          clear h2 h4
          go_simp
          with_reducible refine TQ.use HSZ.out HT1.out H pk ts ?_
          intro _ H
          exact ⟨_, rfl, rfl, H⟩
        case z6s0 =>
          intro vals wx hd HC
          have h1 : vals 1 = .int .i64 (cc : Nat) := hd.1
          have h5 : vals 5 = .int .i64 (ln : Nat) := hd.2.1
          clear hd
          simp only [putS, List.foldl_nil, List.foldl_cons, Act.put, List.setIfInBounds_toArray, List.set_cons_zero, List.set_cons_succ, h1, h5]
          clear h1 h5
          go_simp
          first | exact HC | exact ⟨rfl, HC⟩ | exact ⟨IntWalk.i64_in _ (by omega), HC⟩
        case z6s1 =>
          intro vals wx hd HC
          have h1 : vals 1 = .int .i64 (cc : Nat) := hd.1
          have h5 : vals 5 = .int .i64 (ln : Nat) := hd.2.1
          clear hd
          simp only [putS, List.foldl_nil, List.foldl_cons, Act.put, List.setIfInBounds_toArray, List.set_cons_zero, List.set_cons_succ, h1, h5]
          clear h1 h5
          go_simp
          first | exact HC | exact ⟨rfl, HC⟩ | exact ⟨IntWalk.i64_in _ (by omega), HC⟩
        case z7s0 =>
          intro vals wx hd HC
          have h0 : vals 0 = .int .i64 (fo : Nat) := hd.1
          have h6 : vals 6 = .int .i64 (pr : Nat) := hd.2.1
          clear hd
          simp only [putS, List.foldl_nil, List.foldl_cons, Act.put, List.setIfInBounds_toArray, List.set_cons_zero, List.set_cons_succ, h0, h6]
          clear h0 h6
          go_simp
          first | exact HC | exact ⟨rfl, HC⟩ | exact ⟨IntWalk.i64_in _ (by omega), HC⟩
        case z7s1 =>
          intro vals wx hd HC
          have h0 : vals 0 = .int .i64 (fo : Nat) := hd.1
          have h6 : vals 6 = .int .i64 (pr : Nat) := hd.2.1
          clear hd
          simp only [putS, List.foldl_nil, List.foldl_cons, Act.put, List.setIfInBounds_toArray, List.set_cons_zero, List.set_cons_succ, h0, h6]
          clear h0 h6
          go_simp
          first | exact HC | exact ⟨rfl, HC⟩ | exact ⟨IntWalk.i64_in _ (by omega), HC⟩
        case z8s0 =>
          intro vals wx hd HC
          clear hd
          simp only [putS, List.foldl_nil]
          go_simp
          first | exact HC | exact ⟨rfl, HC⟩ | exact ⟨IntWalk.i64_in _ (by omega), HC⟩
        case z9s0 =>
          intro vals wx hd HC
          clear hd
          simp only [putS, List.foldl_nil]
          go_simp
          first | exact HC | exact ⟨rfl, HC⟩ | exact ⟨IntWalk.i64_in _ (by omega), HC⟩
        case z10s0 =>
          intro vals wx hd HC
          have h9 : vals 9 = .pointer (some ⟨b9, 0, none⟩) := hd.1
          clear hd
          have HC' := HC
          simp only [cAt, List.getD_cons_succ, List.getD_cons_zero] at HC'
          have H := HC'; clear HC'
          simp only [putS, List.foldl_nil, List.foldl_cons, Act.put, List.setIfInBounds_toArray, List.set_cons_zero, List.set_cons_succ, h9]
          first | refine StStep.cellT rfl rfl rfl gt rfl rfl ⟨rfl, HC⟩ | refine StStep.wholeT rfl rfl rfl gt rfl ⟨rfl, HC⟩
        case z11s0 =>
          intro vals wx hd HC
          clear hd
          simp only [putS, List.foldl_nil]
          go_simp
          first | exact HC | exact ⟨rfl, HC⟩ | exact ⟨IntWalk.i64_in _ (by omega), HC⟩
        case z12s0 =>
          intro vals wx hd HC
          have h8 : vals 8 = .pointer (some ⟨p, 0, none⟩) := hd.1
          have h10 : vals 10 = .int .i64 pid := hd.2.1
          have h11 : vals 11 = .int .i64 q2 := hd.2.2.1
          clear hd
          have HC' := HC
          simp only [cAt, List.getD_cons_succ, List.getD_cons_zero] at HC'
          have H := HC'; clear HC'
          simp only [putS, List.foldl_nil, List.foldl_cons, Act.put, List.setIfInBounds_toArray, List.set_cons_zero, List.set_cons_succ, h8, h10, h11]
          clear h8 h10 h11
          go_simp
          with_reducible refine TC.use HLA.out HT1.out H pk ts ?_
          intro T2 _ HT2 H
          exact ⟨_, rfl, rfl, T2, HT2.out, H⟩
        case z13s1 =>
          intro vals wx hd HC
          have h7 : vals 7 = .int .i64 ((fo : Int) + pr) := hd.1
          have h12 : vals 12 = .int .i64 (la : Nat) := hd.2.1
          clear hd
          simp only [putS, List.foldl_nil, List.foldl_cons, Act.put, List.setIfInBounds_toArray, List.set_cons_zero, List.set_cons_succ, h7, h12]
          clear h7 h12
          go_simp
          first | exact HC | exact ⟨rfl, HC⟩ | exact ⟨IntWalk.i64_in _ (by omega), HC⟩
        intro vals wx hd HC
        have h0 : vals 0 = .int .i64 (fo : Nat) := hd.1
        have h1 : vals 1 = .int .i64 (cc : Nat) := hd.2.1
        have h2 : vals 2 = .pointer (some ⟨p, 0, none⟩) := hd.2.2.1
        have h3 : vals 3 = .pointer (some ⟨b9, 0, none⟩) := hd.2.2.2.1
        have h4 : vals 4 = .int .i64 pid := hd.2.2.2.2.1
        have h5 : vals 5 = .int .i64 (ln : Nat) := hd.2.2.2.2.2.1
        have h6 : vals 6 = .int .i64 (pr : Nat) := hd.2.2.2.2.2.2.1
        have h7 : vals 7 = .int .i64 ((fo : Int) + pr) := hd.2.2.2.2.2.2.2.1
        have h8 : vals 8 = .pointer (some ⟨p, 0, none⟩) := hd.2.2.2.2.2.2.2.2.1
        have h9 : vals 9 = .pointer (some ⟨b9, 0, none⟩) := hd.2.2.2.2.2.2.2.2.2.1
        have h10 : vals 10 = .int .i64 pid := hd.2.2.2.2.2.2.2.2.2.2.1
        have h11 : vals 11 = .int .i64 q2 := hd.2.2.2.2.2.2.2.2.2.2.2.1
        have h12 : vals 12 = .int .i64 (la : Nat) := hd.2.2.2.2.2.2.2.2.2.2.2.2.1
        have h13 : vals 13 = .int .i64 ((fo : Int) + pr + la) := hd.2.2.2.2.2.2.2.2.2.2.2.2.2.1
        clear hd
        simp only [cAt, List.getD_cons_succ, List.getD_cons_zero, List.length_cons, List.length_nil] at HC
        obtain ⟨T2, hT2, H⟩ := HC
        simp only [putS, List.foldl_nil, List.foldl_cons, Act.put, List.setIfInBounds_toArray, List.set_cons_zero, List.set_cons_succ, List.drop_succ_cons, List.drop_zero, h0, h1, h2, h3, h4, h5, h6, h7, h8, h9, h10, h11, h12, h13]
        clear h0 h1 h2 h3 h4 h5 h6 h7 h8 h9 h10 h11 h12 h13
        go_wp2_with (first | refine sL ?_ | (refine sS ?_; clear H; intro _ H) | (refine sA ?_; clear H; intro _ _ H))
        go_ret
        exact ⟨T2, by rw [HRES.out]; rfl, hT2, (H.pick (A := tabA T2) pk).onlyHead⟩
end Go.Proofs.Ytijnhpaafhcndaa
end
section
namespace Go.Proofs.Ytijnhpaafhcndaa
open Go.RowKit Go.Maps
attribute [local go_sem] InGr
set_option maxHeartbeats 8000000
set_option maxRecDepth 100000
set_option linter.unusedSimpArgs false
set_option linter.unusedVariables false
section
variable {S : Sto} {lv : Value} {m p s : Nat} {mc : Mc} {bk : Bool} {T : Tab} {w w0 : World} {M : List Nat} {L R : List As}
theorem check_t {id : Nat} (hid : id ≤ S.list.length) : TQ S lv m p s mc false 34 #[.pointer (some ⟨p, 0, none⟩), .int .i64 id] .nilIface := fun T w hT h1 h2 => by
  obtain ⟨ok, rfl, rfl, rfl, hb⟩ := hT
  refine (lcheck_c ok hb hid w h1 h2).mono ?_
  rintro e w' ⟨he, rfl⟩
  exact ⟨he, St.nil _ _⟩
theorem machine_use (hT : TK S p s mc bk T) (H : St w0 M L w) (hp : Pick L (tabA T) R) {Q : Ending → World → Prop} (k : ∀ g1 o1 c1 g2 o2 c2 g3 o3 c3 w', St w0 M L w' → Q (.returned (.agg #[.int .i64 mc.start, .slice (some ⟨g1, o1, none⟩) 256 c1, .slice (some ⟨g2, o2, none⟩) mc.n c2, .slice (some ⟨g3, o3, none⟩) mc.n c3])) w') : Calls Try.prog 39 #[.pointer (some ⟨p, 0, none⟩)] w Q := by
  obtain ⟨ok, rfl, rfl, rfl, rfl⟩ := hT
  obtain ⟨cm, okm⟩ := ok.ok
  refine Calls.mono (machine_c ok w (H.get hp)) ?_
  rintro e w' ⟨cv, nv, av, rvs, P, rfl, hm, hs⟩
  obtain ⟨g1, o1, c1, rfl, _⟩ := hm.cls.hasN okm.cls (by omega)
  obtain ⟨g2, o2, c2, rfl, _⟩ := hm.next.hasN hm.len okm.n1
  obtain ⟨g3, o3, c3, rfl, _⟩ := hm.acc.hasN okm.acc okm.n1
  exact k _ _ _ _ _ _ _ _ _ _ (H.grew hs.below)
end
def Sto.nx (S : Sto) (mc : Mc) (id a : Nat) : Nat := mc.fst (mc.ends mc.start ((S.txt id).take a)) ((S.txt id).drop a)
def Sto.pv (S : Sto) (mc : Mc) (id a : Nat) : Nat := mc.lst mc.start ((S.txt id).take a)
def nxV (a x : Nat) : Value := if x = 0 then .tuple #[.int .i64 0, .iface 42 (.int .i64 5)] else .tuple #[.int .i64 ((a : Int) + x), .nilIface]
section
variable {S : Sto} {lv : Value} {m p s : Nat} {mc : Mc} {id a : Nat}
theorem next_t (hS : S.Ok) (hid : id ≤ S.list.length) (ha : a ≤ (S.txt id).length) : TC S lv m p s mc false 17 #[.pointer (some ⟨p, 0, none⟩), .int .i64 id, .int .i64 a] (nxV a (S.nx mc id a)) := by
  refine TC.mk fun T w M HT H HK => ?_
  obtain ⟨cm, ok⟩ := HT.out.mok
  have hst := ok.start
  have hmax := txt_max hS hid
  have HCK := Lib.hid (check_t (S := S) (lv := lv) (m := m) (p := p) (s := s) (mc := mc) hid)
  have HSZ := Lib.hid (ssize_t (lv := lv) (m := m) (p := p) (s := s) (mc := mc) (bk := false) hS hid)
  have HP1 : Hid (TP S lv m p s mc false 38 #[.pointer (some ⟨p, 0, none⟩), .int .i64 id, .int .i64 0, .int .i64 a] ((S.txt id).take a)) := Lib.hid (by
    have := sparts_p (lv := lv) (m := m) (p := p) (s := s) (mc := mc) (bk := false) (a := 0) (n := a) hS hid (by omega)
    simpa [dirT] using this)
  have HP2 : Hid (TP S lv m p s mc false 38 #[.pointer (some ⟨p, 0, none⟩), .int .i64 id, .int .i64 a, .int .i64 ((S.txt id).length - a : Nat)] ((S.txt id).drop a)) := Lib.hid (by
    have := sparts_p (lv := lv) (m := m) (p := p) (s := s) (mc := mc) (bk := false) (a := a) (n := (S.txt id).length - a) hS hid (by omega)
    rw [← List.length_drop, List.take_length] at this
    simpa [dirT, List.length_drop] using this)
  have hql : mc.ends mc.start ((S.txt id).take a) < mc.n := ok.ends_lt hst fun b hb => S.txt_lt hS hid b (List.mem_of_mem_take hb)
  have HTH : Hid (∀ lp ad c, (runP S false lp = (S.txt id).take a ∧ ∀ t ∈ lp, PtOk S (fun _ => True) t) → TX (ptsA ad c lp) S lv m p s mc false 37 #[.pointer (some ⟨p, 0, none⟩), .slice ad lp.length c, .int .i64 mc.start] (.int .i64 (mc.ends mc.start ((S.txt id).take a) : Nat))) := Lib.hid fun lp ad c h => by
    rw [← h.1]
    exact through_x hS hst h.2
  have HFI : Hid (∀ lp ad c, (runP S false lp = (S.txt id).drop a ∧ ∀ t ∈ lp, PtOk S (fun _ => True) t) → TX (ptsA ad c lp) S lv m p s mc false 48 #[.pointer (some ⟨p, 0, none⟩), .slice ad lp.length c, .int .i64 (mc.ends mc.start ((S.txt id).take a) : Nat)] (.int .i64 (S.nx mc id a : Nat))) := Lib.hid fun lp ad c h => by
    unfold Sto.nx
    have := First_x (lv := lv) (m := m) (p := p) (s := s) (bk := false) (ad := ad) (c := c) hS hql h.2 (by rw [h.1, List.length_drop]; omega)
    rw [h.1] at this
    exact this
  have hres : a + S.nx mc id a ≤ (S.txt id).length := by
    unfold Sto.nx
    have := mc.fst_le (mc.ends mc.start ((S.txt id).take a)) ((S.txt id).drop a)
    rw [List.length_drop] at this
    omega
  have i1 : ((S.txt id).length : Int) - a = (((S.txt id).length - a : Nat) : Int) := by omega
  clear ok hst hS hid hql
  generalize mc.ends mc.start ((S.txt id).take a) = q1 at *
  generalize (S.txt id).drop a = l2 at *
  generalize (S.txt id).take a = l1 at *
  generalize S.nx mc id a = x at *
  generalize (S.txt id).length = ln at *
  have hb1 : a ≤ 1152921504606846976 := by omega
  have hb2 : ln - a ≤ 1152921504606846976 := by omega
  generalize ln - a = rest at *
  unfold nxV
  by_cases hx : x = 0
  · subst hx
    rw [if_pos rfl]
    have hla : ¬ ln < a := by omega
    clear hres
    go_enter Try.func17, Try.ntmps17
    go_wp2_with (first | refine sF ?_ | (go_at_call 34; with_reducible refine TQ.use (HCK.out) HT.out H pk ts ?_; clear H; intro _ H) | (go_at_call 36; with_reducible refine TQ.use (HSZ.out) HT.out H pk ts ?_; clear H; intro _ H) | (go_at_call 38; with_reducible refine TP.use HP1.out HT.out H ts ?_; clear H; intro ad1 c1 lp1 _ HL1 H) | (go_at_call 38; with_reducible refine TP.use HP2.out HT.out H ts ?_; clear H; intro ad2 c2 lp2 _ HL2 H) | (go_at_call 39; with_reducible refine machine_use HT.out H pk ?_; clear H; intro g1 o1 d1 g2 o2 d2 g3 o3 d3 _ H) | (go_at_call 37; with_reducible refine TX.use (HTH.out lp1 ad1 c1 HL1.out) HT.out H pk ts ts ?_; clear H; intro T' _ HT H) | (go_at_call 48; with_reducible refine TX.use (HFI.out lp2 ad2 c2 HL2.out) HT.out H pk ts ts ?_; clear H; intro T' _ HT H))
    go_ret2
    exact ⟨_, rfl, HT.out, H.onlyHead⟩
  · rw [if_neg hx]
    have hx0 : ((x : Int) == 0) = false := by simp; omega
    go_enter Try.func17, Try.ntmps17
    go_wp2_with (first | refine sF ?_ | (go_at_call 34; with_reducible refine TQ.use (HCK.out) HT.out H pk ts ?_; clear H; intro _ H) | (go_at_call 36; with_reducible refine TQ.use (HSZ.out) HT.out H pk ts ?_; clear H; intro _ H) | (go_at_call 38; with_reducible refine TP.use HP1.out HT.out H ts ?_; clear H; intro ad1 c1 lp1 _ HL1 H) | (go_at_call 38; with_reducible refine TP.use HP2.out HT.out H ts ?_; clear H; intro ad2 c2 lp2 _ HL2 H) | (go_at_call 39; with_reducible refine machine_use HT.out H pk ?_; clear H; intro g1 o1 d1 g2 o2 d2 g3 o3 d3 _ H) | (go_at_call 37; with_reducible refine TX.use (HTH.out lp1 ad1 c1 HL1.out) HT.out H pk ts ts ?_; clear H; intro T' _ HT H) | (go_at_call 48; with_reducible refine TX.use (HFI.out lp2 ad2 c2 HL2.out) HT.out H pk ts ts ?_; clear H; intro T' _ HT H))
    go_ret2
    exact ⟨_, rfl, HT.out, H.onlyHead⟩
def pvV (x : Nat) : Value := if x = 0 then .tuple #[.int .i64 0, .iface 42 (.int .i64 5)] else .tuple #[.int .i64 (x : Nat), .nilIface]
theorem prev_t (hS : S.Ok) (hid : id ≤ S.list.length) (ha : a ≤ (S.txt id).length) : TC S lv m p s mc false 18 #[.pointer (some ⟨p, 0, none⟩), .int .i64 id, .int .i64 a] (pvV (S.pv mc id a)) := by
  refine TC.mk fun T w M HT H HK => ?_
  obtain ⟨cm, ok⟩ := HT.out.mok
  have hst := ok.start
  have hmax := txt_max hS hid
  have HCK := Lib.hid (check_t (S := S) (lv := lv) (m := m) (p := p) (s := s) (mc := mc) hid)
  have HSZ := Lib.hid (ssize_t (lv := lv) (m := m) (p := p) (s := s) (mc := mc) (bk := false) hS hid)
  have HP1 : Hid (TP S lv m p s mc false 38 #[.pointer (some ⟨p, 0, none⟩), .int .i64 id, .int .i64 0, .int .i64 a] ((S.txt id).take a)) := Lib.hid (by
    have := sparts_p (lv := lv) (m := m) (p := p) (s := s) (mc := mc) (bk := false) (a := 0) (n := a) hS hid (by omega)
    simpa [dirT] using this)
  have HLA : Hid (∀ lp ad c, (runP S false lp = (S.txt id).take a ∧ ∀ t ∈ lp, PtOk S (fun _ => True) t) → TX (ptsA ad c lp) S lv m p s mc false 49 #[.pointer (some ⟨p, 0, none⟩), .slice ad lp.length c, .int .i64 mc.start] (.int .i64 (S.pv mc id a : Nat))) := Lib.hid fun lp ad c h => by
    unfold Sto.pv
    have := Last_x (lv := lv) (m := m) (p := p) (s := s) (bk := false) (ad := ad) (c := c) hS hst h.2 (by rw [h.1, List.length_take]; omega)
    rw [h.1] at this
    exact this
  have hres : S.pv mc id a ≤ 1152921504606846976 := by
    unfold Sto.pv
    have := mc.lst_le mc.start ((S.txt id).take a)
    rw [List.length_take] at this
    omega
  clear ok hst hS hid
  generalize (S.txt id).take a = l1 at *
  generalize S.pv mc id a = x at *
  generalize (S.txt id).length = ln at *
  have hb1 : a ≤ 1152921504606846976 := by omega
  unfold pvV
  by_cases hx : x = 0
  · subst hx
    rw [if_pos rfl]
    clear hres
    go_enter Try.func18, Try.ntmps18
    go_wp2_with (first | refine sF ?_ | (go_at_call 34; with_reducible refine TQ.use (HCK.out) HT.out H pk ts ?_; clear H; intro _ H) | (go_at_call 36; with_reducible refine TQ.use (HSZ.out) HT.out H pk ts ?_; clear H; intro _ H) | (go_at_call 38; with_reducible refine TP.use HP1.out HT.out H ts ?_; clear H; intro ad1 c1 lp1 _ HL1 H) | (go_at_call 39; with_reducible refine machine_use HT.out H pk ?_; clear H; intro g1 o1 d1 g2 o2 d2 g3 o3 d3 _ H) | (go_at_call 49; with_reducible refine TX.use (HLA.out lp1 ad1 c1 HL1.out) HT.out H pk ts ts ?_; clear H; intro T' _ HT H))
    go_ret2
    exact ⟨_, rfl, HT.out, H.onlyHead⟩
  · rw [if_neg hx]
    have hx0 : ((x : Int) == 0) = false := by simp; omega
    go_enter Try.func18, Try.ntmps18
    go_wp2_with (first | refine sF ?_ | (go_at_call 34; with_reducible refine TQ.use (HCK.out) HT.out H pk ts ?_; clear H; intro _ H) | (go_at_call 36; with_reducible refine TQ.use (HSZ.out) HT.out H pk ts ?_; clear H; intro _ H) | (go_at_call 38; with_reducible refine TP.use HP1.out HT.out H ts ?_; clear H; intro ad1 c1 lp1 _ HL1 H) | (go_at_call 39; with_reducible refine machine_use HT.out H pk ?_; clear H; intro g1 o1 d1 g2 o2 d2 g3 o3 d3 _ H) | (go_at_call 49; with_reducible refine TX.use (HLA.out lp1 ad1 c1 HL1.out) HT.out H pk ts ts ?_; clear H; intro T' _ HT H))
    go_ret2
    exact ⟨_, rfl, HT.out, H.onlyHead⟩
end
theorem hitL_snoc (l : List Nat) (x : Nat) : hitL (l ++ [x]) = if 0 < x then l.length + 1 else hitL l := by
  rw [hitL_append]
  by_cases hx : 0 < x
  · simp [hitL, hx]
  · simp [hitL, hx]
end Go.Proofs.Ytijnhpaafhcndaa
end
section
namespace Go.Proofs.Ytijnhpaafhcndaa
open Go.RowKit Go.Maps
attribute [local go_sem] InGr
set_option maxHeartbeats 8000000
set_option maxRecDepth 100000
set_option linter.unusedSimpArgs false
set_option linter.unusedVariables false
theorem nx_hits (S : Sto) (mc : Mc) (id a : Nat) : hitF ((mc.hits mc.start (S.txt id)).drop a) = S.nx mc id a := by
  unfold Sto.nx Mc.fst
  rw [Mc.hits_drop]
theorem pv_hits (S : Sto) (mc : Mc) (id a : Nat) : hitL ((mc.hits mc.start (S.txt id)).take a) = S.pv mc id a := by
  unfold Sto.pv Mc.lst
  rw [Mc.hits_take]
end Go.Proofs.Ytijnhpaafhcndaa
end
section
namespace Go.Proofs.Ytijnhpaafhcndaa
set_option linter.unusedSimpArgs false
set_option linter.unusedVariables false
theorem hitF_at : ∀ {l : List Nat} {k : Nat}, hitF l = k + 1 → (l.take k).sum = 0 ∧ ∃ x, l[k]? = some x ∧ 0 < x
  | [], k, h => by simp [hitF] at h
  | x :: r, k, h => by
    rw [hitF] at h
    by_cases hx : 0 < x
    · rw [if_pos hx] at h
      obtain rfl : k = 0 := by omega
      exact ⟨rfl, x, rfl, hx⟩
    · rw [if_neg hx] at h
      by_cases hr : hitF r = 0
      · rw [if_pos hr] at h; cases h
      · rw [if_neg hr] at h
        obtain ⟨k', rfl⟩ : ∃ k', k = k' + 1 := ⟨k - 1, by omega⟩
        obtain ⟨h1, y, h2, h3⟩ := hitF_at (l := r) (k := k') (by omega)
        exact ⟨by rw [List.take_succ_cons, List.sum_cons, h1]; omega, y, by simpa using h2, h3⟩
theorem hitL_at : ∀ {l : List Nat} {k : Nat}, hitL l = k + 1 → (l.drop (k + 1)).sum = 0 ∧ ∃ x, l[k]? = some x ∧ 0 < x
  | [], k, h => by simp [hitL] at h
  | x :: r, k, h => by
    rw [hitL] at h
    by_cases hr : hitL r = 0
    · rw [if_pos hr] at h
      by_cases hx : 0 < x
      · rw [if_pos hx] at h
        obtain rfl : k = 0 := by omega
        exact ⟨by simpa using (hitL_zero r).1 hr, x, rfl, hx⟩
      · rw [if_neg hx] at h; cases h
    · rw [if_neg hr] at h
      obtain ⟨k', rfl⟩ : ∃ k', k = k' + 1 := ⟨k - 1, by omega⟩
      obtain ⟨h1, y, h2, h3⟩ := hitL_at (l := r) (k := k') (by omega)
      exact ⟨by simpa using h1, y, by simpa using h2, h3⟩
theorem sum_one {l : List Nat} {k x : Nat} (h : l[k]? = some x) : ((l.drop k).take 1).sum = x := by
  have : (l.drop k).take 1 = [x] := by
    obtain ⟨h1, h2⟩ := List.getElem?_eq_some_iff.1 h
    rw [List.drop_eq_getElem_cons h1, h2]; rfl
  rw [this]; simp
section
variable {S : Sto} {mc : Mc} {id a k : Nat}
theorem rsum_hits (S : Sto) (mc : Mc) (id s n : Nat) : S.rsum mc id s n = (((mc.hits mc.start (S.txt id)).drop s).take n).sum := (Mc.hits_range _ _ _ _).symm
theorem nx_at (h : S.nx mc id a = k + 1) : S.rsum mc id a k = 0 ∧ 0 < S.rsum mc id (a + k) 1 ∧ S.pv mc id (a + k + 1) = a + k + 1 := by
  rw [← nx_hits] at h
  obtain ⟨h1, x, h2, h3⟩ := hitF_at h
  rw [List.getElem?_drop] at h2
  refine ⟨by rw [rsum_hits]; exact h1, by rw [rsum_hits, sum_one h2]; exact h3, ?_⟩
  rw [← pv_hits, List.take_add_one, h2]
  simp only [Option.toList]
  have := getElem_len h2
  rw [hitL_snoc, if_pos h3, List.length_take, Nat.min_eq_left (by omega)]
theorem nx_no (h : S.nx mc id a = 0) : S.rsum mc id a ((S.txt id).length - a) = 0 := by
  rw [← nx_hits, hitF_zero] at h
  rw [rsum_hits, List.take_of_length_le (by rw [List.length_drop, Mc.hits_len]; omega)]
  exact h
theorem pv_at (h : S.pv mc id a = k + 1) (ha : a ≤ (S.txt id).length) : k + 1 ≤ a ∧ S.rsum mc id (k + 1) (a - (k + 1)) = 0 ∧ 0 < S.rsum mc id k 1 := by
  rw [← pv_hits] at h
  have hle := hitL_le ((mc.hits mc.start (S.txt id)).take a)
  rw [List.length_take, Mc.hits_len, h] at hle
  obtain ⟨h1, x, h2, h3⟩ := hitL_at h
  have hka : k < a := by omega
  refine ⟨by omega, ?_, ?_⟩
  · rw [rsum_hits, ← List.drop_take]
    exact h1
  · rw [List.getElem?_take_of_lt hka] at h2
    rw [rsum_hits, sum_one h2]
    exact h3
theorem pv_no (h : S.pv mc id a = 0) : S.rsum mc id 0 a = 0 := by
  rw [← pv_hits, hitL_zero] at h
  rw [rsum_hits, List.drop_zero]
  exact h
end
end Go.Proofs.Ytijnhpaafhcndaa
end
section
namespace Go.Proofs.Ytijnhpaafhcndaa
open Go.RowKit Go.Maps
attribute [local go_sem] InGr
set_option maxHeartbeats 8000000
set_option maxRecDepth 100000
set_option linter.unusedSimpArgs false
set_option linter.unusedVariables false
theorem St.sepO3 {A B C : As} {w0 w : World} {M : List Nat} {L R R' R'' : List As} (h : St w0 M L w) (h1 : Pick L A R) (h2 : Pick R B R') (h3 : Pick R' C R'') : (A.sep (B.sep C)).ho w := by
  have k := (h.pick3 h1 h2 h3).perm (show (A :: B :: C :: R'').Perm (B :: C :: A :: R'') from by
    refine (List.Perm.swap B A _).trans ?_
    exact (List.Perm.swap C A _).cons B)
  have k2 := k.join.perm (List.Perm.swap A (B.sep C) R'')
  exact k2.join.ho _ List.mem_cons_self
abbrev capA (b5 b6 p id : Nat) : As := (blk b5 (.cells #[.pointer (some ⟨p, 0, none⟩)] 31)).sep (blk b6 (.cells #[.int .i64 (id : Nat)] 32))
section
variable {S : Sto} {lv : Value} {m p s b5 b6 : Nat} {mc : Mc} {id a n x : Nat}
theorem count_t (hS : S.Ok) (hid : id ≤ S.list.length) (hf : a + n ≤ (S.txt id).length) : TC S lv m p s mc false 12 #[.pointer (some ⟨p, 0, none⟩), .int .i64 id, .int .i64 a, .int .i64 n] (cntV (S.rsum mc id a n)) :=
  TC.of fun T w hT h => by
    obtain ⟨ok, rfl, rfl, rfl, hb⟩ := hT
    exact count_c hS ok hb hid hf w h
theorem count_i (hS : S.Ok) (hid : id ≤ S.list.length) (hf : a + n ≤ (S.txt id).length) (hx : S.rsum mc id a n = x) (hle : x ≤ 1152921504606846976) : TC S lv m p s mc false 12 #[.pointer (some ⟨p, 0, none⟩), .int .i64 id, .int .i64 a, .int .i64 n] (.tuple #[.int .i64 (x : Nat), .nilIface]) := by
  have := count_t (lv := lv) (m := m) (p := p) (s := s) (mc := mc) hS hid hf
  rw [hx, cntV_in hle] at this
  exact this
theorem none_x {fr to : Int} (hfr : fr = (a : Int)) (hS : S.Ok) (hid : id ≤ S.list.length) (hf : a + n ≤ (S.txt id).length) (hto : to = (a : Int) + n) (hx : S.rsum mc id a n = 0) : TX (capA b5 b6 p id) S lv m p s mc false 20 #[.int .i64 fr, .int .i64 to, .pointer (some ⟨b5, 0, none⟩), .pointer (some ⟨b6, 0, none⟩)] (.bool true) := by
  refine TX.mk fun T w M HT H HK => ?_
  have HK1 : Ks w M [capA b5 b6 p id, stoA s lv m S] := ⟨fun A hA => HK.ho A (by simp only [List.mem_cons, List.not_mem_nil, or_false] at hA ⊢; exact hA.symm), fun A hA => HK.apart A (by simp only [List.mem_cons, List.not_mem_nil, or_false] at hA ⊢; exact hA.symm)⟩
  clear HK
  have HK := HK1.sep
  clear HK1
  have hmax := txt_max hS hid
  have HCO := Lib.hid (count_i (lv := lv) (m := m) (p := p) (s := s) hS hid hf hx (by omega))
  have i1 : (a : Int) + n - a = (n : Int) := by omega
  have hb1 : a + n ≤ 1152921504606846976 := by omega
  subst hto hfr
  clear hS hid hf hx hmax
  go_enter Try.func20, Try.ntmps20
  go_wp2_with (first | refine sL ?_ | (go_at_call 12; with_reducible refine TC.use (HCO.out) HT.out H pk ts ?_; clear H; intro T' _ HT H))
  go_ret
  exact ⟨T', rfl, HT.out, H⟩
theorem some_x {en : Int} (hen : en = (a : Int) + 1) (hS : S.Ok) (hid : id ≤ S.list.length) (hf : a + 1 ≤ (S.txt id).length) (hx : S.rsum mc id a 1 = x) (hx0 : 0 < x) (hle : x ≤ 1152921504606846976) : TX (capA b5 b6 p id) S lv m p s mc false 21 #[.int .i64 en, .pointer (some ⟨b5, 0, none⟩), .pointer (some ⟨b6, 0, none⟩)] (.bool true) := by
  refine TX.mk fun T w M HT H HK => ?_
  have HK1 : Ks w M [capA b5 b6 p id, stoA s lv m S] := ⟨fun A hA => HK.ho A (by simp only [List.mem_cons, List.not_mem_nil, or_false] at hA ⊢; exact hA.symm), fun A hA => HK.apart A (by simp only [List.mem_cons, List.not_mem_nil, or_false] at hA ⊢; exact hA.symm)⟩
  clear HK
  have HK := HK1.sep
  clear HK1
  have hmax := txt_max hS hid
  have HCO : Hid (TC S lv m p s mc false 12 #[.pointer (some ⟨p, 0, none⟩), .int .i64 id, .int .i64 (a : Nat), .int .i64 1] (.tuple #[.int .i64 (x : Nat), .nilIface])) := Lib.hid (count_i (lv := lv) (m := m) (p := p) (s := s) (n := 1) hS hid hf hx hle)
  have d1 : decide ((0 : Int) < (x : Int)) = true := by simp; omega
  have d2 : decide (0 < x) = true := by simpa using hx0
  have hb1 : a + 1 ≤ 1152921504606846976 := by omega
  subst hen
  clear hS hid hf hx hmax hx0
  go_enter Try.func21, Try.ntmps21
  go_wp2_with (first | refine sL ?_ | (go_at_call 12; with_reducible refine TC.use (HCO.out) HT.out H pk ts ?_; clear H; intro T' _ HT H))
  go_ret
  exact ⟨T', rfl, HT.out, H⟩
end
theorem steps_walk {P : PoolT} {cv nv av hv lv : Value} {rvs : List Value} {R : Raw} {ms : List Mk} {N f : Int} (h : RawAt P cv nv av hv rvs R) (hms : RowIn P mkL 5 lv ms) (hf : ∀ m ∈ ms, m.Fits) (hs : fits64 R.start) (hN : fits64 N) (h1 : fits64 f) (w : World) (hp : (poolA P).ho w) :
    Calls Try.prog 7 #[.agg #[.int .i64 R.start, cv, nv, av, hv, lv, .int .i64 N], .int .i64 f] w fun e w' => e = .returned (.bool true) ∧ St w [] [] w' := by
  have H := St.nil w []
  have HK := Ks.one hp
  unfold fits64 at hs h1
  have HG := Lib.hid (fun w hp => good_c h hms hs.1 hs.2 (N := N) w hp)
  have HB : Hid (∀ c, R.Snd c → ms.length ≤ 100 → ∀ w, (poolA P).ho w → _) := Lib.hid (fun c hR hl w hp => begun_c h hR hms hf hl hN w hp)
  have HID := Lib.hid (idOf_le hf N)
  obtain ⟨a1, c1, rfl, hm1⟩ := h.cls.shape
  obtain ⟨a2, c2, rfl, hm2⟩ := h.next.shape
  obtain ⟨a3, c3, rfl, hm3⟩ := h.acc.shape
  obtain ⟨a4, c4, rfl, hm4⟩ := h.wts.shape
  obtain ⟨a5, c5, rfl, hm5⟩ := hms.shape
  clear h hms hf hs hN hp hm1 hm2 hm3 hm4 hm5
  go_enter Try.func7, Try.ntmps7
  go_wp2_with (first | refine sL ?_ | (refine sS ?_; clear H; intro _ H) | (refine sB ?_; clear H; intro _ _ H) | (refine sA ?_; clear H; intro _ _ H))
  with_reducible refine Calls.mono (HG.out _ (H.known HK pk)) ?_
  rintro e wc ⟨b, rfl, hgood, hb⟩
  replace H := H.grew hb.below
  clear hb
  cases b with
  | false =>
    clear hgood
    go_wp2_with (first | refine sL ?_ | (refine sS ?_; clear H; intro _ H) | (refine sB ?_; clear H; intro _ _ H) | (refine sA ?_; clear H; intro _ _ H))
    go_ret
    exact ⟨rfl, H.nix⟩
  | true =>
    obtain ⟨hl, c, hR⟩ := hgood rfl
    have HR := Lib.hid hR
    have HL := Lib.hid hl
    clear hgood hl hR
    go_wp2_with (first | refine sL ?_ | (refine sS ?_; clear H; intro _ H) | (refine sB ?_; clear H; intro _ _ H) | (refine sA ?_; clear H; intro _ _ H))
    with_reducible refine Calls.mono (HB.out c HR.out HL.out _ (H.known HK pk)) ?_
    rintro e wc ⟨T, mm, lv1, rfl, hmc, hbk, hT, hb⟩
    replace H := H.call0 hb
    clear hb
    simp only [List.cons_append, List.nil_append] at H
    obtain ⟨hok, hid, _, _⟩ := HID.out
    have hmax := txt_max hok hid
    generalize hii : idOf ms N = id at *
    generalize hSS : stoOf ms = S at *
    have HT : Hid (TK S T.p T.s R.mc false T) := Lib.hid ⟨hT, rfl, rfl, hmc, hbk⟩
    have HOK := Lib.hid (And.intro hok hid)
    have HSU : Hid (∀ a, a + 1 ≤ (S.txt id).length → S.rsum R.mc id a 1 ≤ 1152921504606846976) := Lib.hid fun a ha => by
      have := HR.out.ok.sum_le (HR.out.ok.ends_lt HR.out.ok.start (l := (S.txt id).take a) fun b hb => Sto.txt_lt hok hid b (List.mem_of_mem_take hb)) (l := ((S.txt id).drop a).take 1) (fun b hb => Sto.txt_lt hok hid b (List.mem_of_mem_drop (List.mem_of_mem_take hb)))
      rw [List.length_take] at this
      unfold Sto.rsum
      omega
    have HLE : Hid (∀ a, a ≤ (S.txt id).length → a + S.nx R.mc id a ≤ (S.txt id).length ∧ S.pv R.mc id a ≤ a) := Lib.hid fun a ha => by
      have h1 := R.mc.fst_le (R.mc.ends R.mc.start ((S.txt id).take a)) ((S.txt id).drop a)
      have h2 := R.mc.lst_le R.mc.start ((S.txt id).take a)
      rw [List.length_drop] at h1
      rw [List.length_take] at h2
      unfold Sto.nx Sto.pv
      omega
    have HNA : Hid (∀ a k, S.nx R.mc id a = k + 1 → S.rsum R.mc id a k = 0 ∧ 0 < S.rsum R.mc id (a + k) 1 ∧ S.pv R.mc id (a + k + 1) = a + k + 1) := Lib.hid fun a k h => nx_at h
    have HNN : Hid (∀ a, S.nx R.mc id a = 0 → S.rsum R.mc id a ((S.txt id).length - a) = 0) := Lib.hid fun a h => nx_no h
    have HPA : Hid (∀ a k, S.pv R.mc id a = k + 1 → a ≤ (S.txt id).length → k + 1 ≤ a ∧ S.rsum R.mc id (k + 1) (a - (k + 1)) = 0 ∧ 0 < S.rsum R.mc id k 1) := Lib.hid fun a k h ha => pv_at h ha
    have HPN : Hid (∀ a, S.pv R.mc id a = 0 → S.rsum R.mc id 0 a = 0) := Lib.hid fun a h => pv_no h
    clear HB HG HID hok hid hii hSS hmc hbk hT
    have hmf : ∀ (fn : Fn) (first cap : Array Value) (w : World), (Instr.makeFunc fn first cap).run Try.prog w = .ok (.func fn first cap) w := fun _ _ _ _ => rfl
    by_cases hin : 0 ≤ f ∧ f ≤ (S.txt id).length
    · obtain ⟨a, rfl⟩ : ∃ a : Nat, f = a := ⟨f.toNat, by omega⟩
      have hal : a ≤ (S.txt id).length := by omega
      obtain ⟨hle1, hle2⟩ := HLE.out a hal
      have HNE := Lib.hid (next_t (lv := lv1) (m := mm) (p := T.p) (s := T.s) (mc := R.mc) HOK.out.1 HOK.out.2 hal)
      have HPR := Lib.hid (prev_t (lv := lv1) (m := mm) (p := T.p) (s := T.s) (mc := R.mc) HOK.out.1 HOK.out.2 hal)
      have HIS : Hid (∀ w, Calls Try.prog 13 #[.iface 42 (.int .i64 5), .int .i64 5] w fun e w' => e = .returned (.bool true) ∧ w' = w) := Lib.hid (fun w => is_ev 5 5 (by omega) true rfl w)
      have ek1 : decide ((a : Int) < 0) = false := by simp
      unfold nxV at HNE
      unfold pvV at HPR
      generalize hln : (S.txt id).length = ln at *
      have HLN := Lib.hid hln
      have ek2 : decide ((ln : Int) < a) = false := by simp; omega
      have ek3 : decide (ln < a) = false := by simp; omega
      clear hin hln
      by_cases hx : S.nx R.mc id a = 0
      · by_cases hy : S.pv R.mc id a = 0
        · have HN0 := Lib.hid (HNN.out a hx)
          rw [if_pos hx] at HNE
          have HQ0 := Lib.hid (HPN.out a hy)
          rw [if_pos hy] at HPR
          have hb1 : ln ≤ 1152921504606846976 := by omega
          clear HLE HNA HNN HPA HPN hle1 hle2 hmax
          go_wp2_with (first | refine sL ?_ | (refine sS ?_; clear H; intro _ H) | (refine sB ?_; clear H; intro _ _ H) | (refine sA ?_; clear H; intro _ _ H) | (go_at_call 17; with_reducible refine TC.use (HNE.out) HT.out H pk ts ?_; clear H; intro T' _ HT H) | (go_at_call 18; with_reducible refine TC.use (HPR.out) HT.out H pk ts ?_; clear H; intro T' _ HT H) | (go_at_call 13; with_reducible refine same (HIS.out _) ?_) | (go_at_call 20; with_reducible refine TX.use (none_x (a := a) (by omega) (n := ln - a) HOK.out.1 HOK.out.2 (by rw [HLN.out]; omega) (by omega) HN0.out) HT.out H pk ts (H.sepO3 pk pk pk) ?_; clear H; intro T' _ HT H) | (go_at_call 20; with_reducible refine TX.use (none_x (a := 0) (by omega) (n := a) HOK.out.1 HOK.out.2 (by rw [HLN.out]; omega) (by omega) HQ0.out) HT.out H pk ts (H.sepO3 pk pk pk) ?_; clear H; intro T' _ HT H))
          go_ret
          exact ⟨rfl, H.nix⟩
        · have HN0 := Lib.hid (HNN.out a hx)
          rw [if_pos hx] at HNE
          obtain ⟨j, hj⟩ : ∃ j, S.pv R.mc id a = j + 1 := ⟨S.pv R.mc id a - 1, by omega⟩
          rw [if_neg hy, hj] at HPR
          obtain ⟨q1, q2, q3⟩ := HPA.out a j hj hal
          have HQ2 := Lib.hid q2
          have HQ3 := Lib.hid q3
          clear q2 q3
          have hb1 : ln ≤ 1152921504606846976 := by omega
          clear HLE HNA HNN HPA HPN hle1 hle2 hmax
          go_wp2_with (first | refine sL ?_ | (refine sS ?_; clear H; intro _ H) | (refine sB ?_; clear H; intro _ _ H) | (refine sA ?_; clear H; intro _ _ H) | (go_at_call 17; with_reducible refine TC.use (HNE.out) HT.out H pk ts ?_; clear H; intro T' _ HT H) | (go_at_call 18; with_reducible refine TC.use (HPR.out) HT.out H pk ts ?_; clear H; intro T' _ HT H) | (go_at_call 13; with_reducible refine same (HIS.out _) ?_) | (go_at_call 20; with_reducible refine TX.use (none_x (a := a) (by omega) (n := ln - a) HOK.out.1 HOK.out.2 (by rw [HLN.out]; omega) (by omega) HN0.out) HT.out H pk ts (H.sepO3 pk pk pk) ?_; clear H; intro T' _ HT H) | (go_at_call 21; with_reducible refine TX.use (some_x (a := j) (by omega) HOK.out.1 HOK.out.2 (by rw [HLN.out]; omega) rfl HQ3.out (HSU.out _ (by omega))) HT.out H pk ts (H.sepO3 pk pk pk) ?_; clear H; intro T' _ HT H) | (go_at_call 20; with_reducible refine TX.use (none_x (a := j + 1) (by omega) (n := a - (j + 1)) HOK.out.1 HOK.out.2 (by rw [HLN.out]; omega) (by omega) HQ2.out) HT.out H pk ts (H.sepO3 pk pk pk) ?_; clear H; intro T' _ HT H))
          go_ret
          exact ⟨rfl, H.nix⟩
      · by_cases hy : S.pv R.mc id a = 0
        · obtain ⟨k, hk⟩ : ∃ k, S.nx R.mc id a = k + 1 := ⟨S.nx R.mc id a - 1, by omega⟩
          rw [if_neg hx, hk] at HNE
          obtain ⟨n1, n2, n3⟩ := HNA.out a k hk
          have HN1 := Lib.hid n1
          have HN2 := Lib.hid n2
          have HN3 := Lib.hid n3
          have hkl : a + k + 1 ≤ ln := by omega
          have HP2 : Hid (∀ z : Int, z = (a : Int) + k + 1 → TC S lv1 mm T.p T.s R.mc false 18 #[.pointer (some ⟨T.p, 0, none⟩), .int .i64 id, .int .i64 z] (.tuple #[.int .i64 z, .nilIface])) := Lib.hid (by
            intro z hz
            subst hz
            have := prev_t (lv := lv1) (m := mm) (p := T.p) (s := T.s) (mc := R.mc) (id := id) (a := a + k + 1) HOK.out.1 HOK.out.2 (by rw [HLN.out]; omega)
            rw [n3] at this
            unfold pvV at this
            rw [if_neg (by omega)] at this
            exact this)
          clear n1 n2 n3
          have HQ0 := Lib.hid (HPN.out a hy)
          rw [if_pos hy] at HPR
          have hb1 : ln ≤ 1152921504606846976 := by omega
          clear HLE HNA HNN HPA HPN hle1 hle2 hmax
          go_wp2_with (first | refine sL ?_ | (refine sS ?_; clear H; intro _ H) | (refine sB ?_; clear H; intro _ _ H) | (refine sA ?_; clear H; intro _ _ H) | (go_at_call 17; with_reducible refine TC.use (HNE.out) HT.out H pk ts ?_; clear H; intro T' _ HT H) | (go_at_call 18; with_reducible refine TC.use (HPR.out) HT.out H pk ts ?_; clear H; intro T' _ HT H) | (go_at_call 18; with_reducible refine TC.use (HP2.out _ (by omega)) HT.out H pk ts ?_; clear H; intro T' _ HT H) | (go_at_call 21; with_reducible refine TX.use (some_x (a := a + k) (by omega) HOK.out.1 HOK.out.2 (by rw [HLN.out]; omega) rfl HN2.out (HSU.out _ (by omega))) HT.out H pk ts (H.sepO3 pk pk pk) ?_; clear H; intro T' _ HT H) | (go_at_call 20; with_reducible refine TX.use (none_x (a := a) (by omega) (n := k) HOK.out.1 HOK.out.2 (by rw [HLN.out]; omega) (by omega) HN1.out) HT.out H pk ts (H.sepO3 pk pk pk) ?_; clear H; intro T' _ HT H) | (go_at_call 13; with_reducible refine same (HIS.out _) ?_) | (go_at_call 20; with_reducible refine TX.use (none_x (a := 0) (by omega) (n := a) HOK.out.1 HOK.out.2 (by rw [HLN.out]; omega) (by omega) HQ0.out) HT.out H pk ts (H.sepO3 pk pk pk) ?_; clear H; intro T' _ HT H))
          go_ret
          exact ⟨rfl, H.nix⟩
        · obtain ⟨k, hk⟩ : ∃ k, S.nx R.mc id a = k + 1 := ⟨S.nx R.mc id a - 1, by omega⟩
          rw [if_neg hx, hk] at HNE
          obtain ⟨n1, n2, n3⟩ := HNA.out a k hk
          have HN1 := Lib.hid n1
          have HN2 := Lib.hid n2
          have HN3 := Lib.hid n3
          have hkl : a + k + 1 ≤ ln := by omega
          have HP2 : Hid (∀ z : Int, z = (a : Int) + k + 1 → TC S lv1 mm T.p T.s R.mc false 18 #[.pointer (some ⟨T.p, 0, none⟩), .int .i64 id, .int .i64 z] (.tuple #[.int .i64 z, .nilIface])) := Lib.hid (by
            intro z hz
            subst hz
            have := prev_t (lv := lv1) (m := mm) (p := T.p) (s := T.s) (mc := R.mc) (id := id) (a := a + k + 1) HOK.out.1 HOK.out.2 (by rw [HLN.out]; omega)
            rw [n3] at this
            unfold pvV at this
            rw [if_neg (by omega)] at this
            exact this)
          clear n1 n2 n3
          obtain ⟨j, hj⟩ : ∃ j, S.pv R.mc id a = j + 1 := ⟨S.pv R.mc id a - 1, by omega⟩
          rw [if_neg hy, hj] at HPR
          obtain ⟨q1, q2, q3⟩ := HPA.out a j hj hal
          have HQ2 := Lib.hid q2
          have HQ3 := Lib.hid q3
          clear q2 q3
          have hb1 : ln ≤ 1152921504606846976 := by omega
          clear HLE HNA HNN HPA HPN hle1 hle2 hmax
          go_wp2_with (first | refine sL ?_ | (refine sS ?_; clear H; intro _ H) | (refine sB ?_; clear H; intro _ _ H) | (refine sA ?_; clear H; intro _ _ H) | (go_at_call 17; with_reducible refine TC.use (HNE.out) HT.out H pk ts ?_; clear H; intro T' _ HT H) | (go_at_call 18; with_reducible refine TC.use (HPR.out) HT.out H pk ts ?_; clear H; intro T' _ HT H) | (go_at_call 18; with_reducible refine TC.use (HP2.out _ (by omega)) HT.out H pk ts ?_; clear H; intro T' _ HT H) | (go_at_call 21; with_reducible refine TX.use (some_x (a := a + k) (by omega) HOK.out.1 HOK.out.2 (by rw [HLN.out]; omega) rfl HN2.out (HSU.out _ (by omega))) HT.out H pk ts (H.sepO3 pk pk pk) ?_; clear H; intro T' _ HT H) | (go_at_call 20; with_reducible refine TX.use (none_x (a := a) (by omega) (n := k) HOK.out.1 HOK.out.2 (by rw [HLN.out]; omega) (by omega) HN1.out) HT.out H pk ts (H.sepO3 pk pk pk) ?_; clear H; intro T' _ HT H) | (go_at_call 21; with_reducible refine TX.use (some_x (a := j) (by omega) HOK.out.1 HOK.out.2 (by rw [HLN.out]; omega) rfl HQ3.out (HSU.out _ (by omega))) HT.out H pk ts (H.sepO3 pk pk pk) ?_; clear H; intro T' _ HT H) | (go_at_call 20; with_reducible refine TX.use (none_x (a := j + 1) (by omega) (n := a - (j + 1)) HOK.out.1 HOK.out.2 (by rw [HLN.out]; omega) (by omega) HQ2.out) HT.out H pk ts (H.sepO3 pk pk pk) ?_; clear H; intro T' _ HT H))
          go_ret
          exact ⟨rfl, H.nix⟩
    · generalize (S.txt id).length = ln at *
      clear HLE HNA HNN HPA HPN HSU
      by_cases k1 : f < 0
      · have ek1 : decide (f < 0) = true := by simp; omega
        clear k1 hin
        go_wp2_with (first | refine sL ?_ | (refine sS ?_; clear H; intro _ H) | (refine sB ?_; clear H; intro _ _ H) | (refine sA ?_; clear H; intro _ _ H))
        go_ret
        exact ⟨rfl, H.nix⟩
      · have ek1 : decide (f < 0) = false := by simp; omega
        have ek2 : decide ((ln : Int) < f) = true := by simp; omega
        clear k1 hin
        go_wp2_with (first | refine sL ?_ | (refine sS ?_; clear H; intro _ H) | (refine sB ?_; clear H; intro _ _ H) | (refine sA ?_; clear H; intro _ _ H))
        go_ret
        exact ⟨rfl, H.nix⟩
end Go.Proofs.Ytijnhpaafhcndaa
end
section
namespace Go.Proofs.Ytijnhpaafhcndaa
open Go.ChangeShapes Go.WideShapes Go.ChangeAt Go.RowKit Go.Deep
set_option linter.unusedVariables false
set_option linter.unusedSimpArgs false
set_option maxRecDepth 100000
theorem ownK : ownKnob Try.prog.godebug = none := by kernel_rfl
theorem i64_wf {x : Int} (h : (Lit.int .i64 x).wf = true) : fits64 x := by
  simp [Lit.wf, IntKind.min, IntKind.max, IntKind.signed, IntKind.bits] at h
  unfold fits64
  omega
theorem u8_wf {x : Int} (h : (Lit.int .u8 x).wf = true) : ∃ n : Nat, x = (n : Int) ∧ n < 256 := by
  simp [Lit.wf, IntKind.min, IntKind.max, IntKind.signed, IntKind.bits] at h
  exact ⟨x.toNat, by omega, by omega⟩
section
variable {H : Type} {enc : TypeId × Value → H} {w : World} {base : Nat} {spare : Nat → Bool} {held : Bool}
theorem open_row {α : Type} [Inhabited α] {ec : α → List Value} {k : Nat} (hk : ∀ x, (ec x).length = k) (hk0 : 0 < k) {t e : TypeId} (ht : Try.prog.underlying t = some (.slice e)) (hc : Try.prog.cellsOf e = k) (Ok : α → Prop)
    (el : ∀ n cs y, cs.length = k → DataW.trod enc Try.prog w base spare held n e cs = some y → ∃ x, cs = ec x ∧ Ok x) {fuel : Nat} {cs : List Value} {x : DataW H × List MemPlace} (h : DataW.trod enc Try.prog w base spare held fuel t cs = some x) :
    ∃ (v : Value) (xs : List α) (P : PoolT), cs = [v] ∧ RowIn P ec k v xs ∧ (poolA P).ho w ∧ ∀ x ∈ xs, Ok x := by
  rcases open_slice ht h with ⟨hcs, _⟩ | ⟨a, len, cap, m, n, D, Pl, hcs, _, hl, hm, hmm, _, hx⟩
  · exact ⟨_, [], [], hcs, RowIn.nil 0, poolA_nil w, by simp⟩
  · have hml : len ≤ m := by rw [hmm]; split <;> omega
    rw [hc] at hx
    by_cases h0 : len = 0
    · subst h0
      exact ⟨_, [], [], hcs, ⟨some a, cap, rfl, by simp, fun h => by simp at h⟩, poolA_nil w, by simp⟩
    obtain ⟨b, o, spot⟩ := a
    have key : ∀ i, i < len → ∃ x : α, w.cells? base ((⟨b, o, spot⟩ : Addr).add (i * k)) k = some (ec x) ∧ Ok x := fun i hi => by
      obtain ⟨cs', h1, h2⟩ := hx i (by omega)
      obtain ⟨x, rfl, hok⟩ := el _ _ _ (World.cells?_some h1).2.1 h2
      exact ⟨x, h1, hok⟩
    obtain ⟨f, hf2⟩ := choose_lt (α := α) key
    have hcell : ∀ i, i < len → ∀ j u, (ec (f i))[j]? = some u → w.cell? (((⟨b, o, spot⟩ : Addr).add (i * k)).add j) = some u := fun i hi j u hj => by
      have hj4 : j < k := by have := (List.getElem?_eq_some_iff.1 hj).1; rwa [hk] at this
      have := (World.cells?_some (hf2 i hi).1).2.2 j hj4
      rw [this, hj]
    have hl4 : 0 < (ec (f 0)).length := by rw [hk]; omega
    have hspot : spot = none := by
      have := World.cell?_spot (hcell 0 (by omega) 0 _ (List.getElem?_eq_getElem hl4))
      simpa [Addr.add] using this
    subst hspot
    have hadd : ∀ i j, ((⟨b, o, none⟩ : Addr).add (i * k)).add j = ⟨b, o + (i * k + j), none⟩ := fun i j => by rw [Addr.add_mid, Addr.add_mid]; congr 1; omega
    have hblk : b < w.heap.size := by
      have := block_lt_of_cell (hcell 0 (by omega) 0 _ (List.getElem?_eq_getElem hl4))
      rw [hadd] at this
      exact this
    unfold maxLen at hm
    have hlen : ((List.range len).map f).length = len := by simp
    refine ⟨_, (List.range len).map f, [(b, o, flatG ec ((List.range len).map f))], hcs, ⟨some ⟨b, o, none⟩, cap, by rw [hlen], by rw [hlen]; unfold maxLen; omega, fun _ => ⟨b, o, rfl, by simp⟩⟩, ?_, ?_⟩
    · rw [poolA_ho]
      intro y hy
      simp only [List.mem_singleton] at hy
      subst hy
      refine ⟨hblk, fun jj u hj => ?_⟩
      have hjl := getElem_len hj
      rw [flatG_len ec k hk, hlen] at hjl
      have hi : jj / k < len := by rw [Nat.div_lt_iff_lt_mul hk0]; exact hjl
      have hjk : jj % k < k := Nat.mod_lt _ hk0
      have hget : ((List.range len).map f)[jj / k]? = some (f (jj / k)) := by rw [List.getElem?_map, List.getElem?_range hi]; rfl
      have hfl := flatG_get ec k hk _ (jj / k) _ hget (jj % k) hjk
      have hdm : jj / k * k + jj % k = jj := by have := Nat.div_add_mod jj k; rw [Nat.mul_comm] at this; exact this
      rw [hdm, hj] at hfl
      have := hcell (jj / k) hi (jj % k) u hfl.symm
      rw [hadd, hdm] at this
      exact this
    · intro y hy
      obtain ⟨i, hi, rfl⟩ := List.mem_map.1 hy
      exact (hf2 i (List.mem_range.1 hi)).2
theorem open_ints_row {t e : TypeId} (ht : Try.prog.underlying t = some (.slice e)) (he : Try.prog.underlying e = some (.int .i64)) (hc : Try.prog.cellsOf e = 1) {fuel : Nat} {cs : List Value} {x : DataW H × List MemPlace} (h : DataW.trod enc Try.prog w base spare held fuel t cs = some x) :
    ∃ (v : Value) (xs : List Int) (P : PoolT), cs = [v] ∧ RowIn P encZ 1 v xs ∧ (poolA P).ho w ∧ ∀ x ∈ xs, fits64 x :=
  open_row encZ_len (by omega) ht hc fits64 (fun n cs y hl hy => by
    obtain ⟨z, rfl, _, hz⟩ := DataW.trod_int he hy
    exact ⟨z, rfl, i64_wf hz⟩) h
theorem rows_all {rvs : List Value} (h : ∀ v ∈ rvs, ∃ (xs : List Int) (P : PoolT), RowIn P encZ 1 v xs ∧ (poolA P).ho w) :
    ∃ (nx : List (List Int)) (P : PoolT), rvs.length = nx.length ∧ (∀ (i : Nat) (rv : Value) (r : List Int), rvs[i]? = some rv → nx[i]? = some r → RowIn P encZ 1 rv r) ∧ (poolA P).ho w := by
  induction rvs with
  | nil => exact ⟨[], [], rfl, fun i rv r h => by simp at h, poolA_nil w⟩
  | cons v rvs ih =>
    obtain ⟨nx, P, h1, h2, h3⟩ := ih fun u hu => h u (by simp [hu])
    obtain ⟨xs, Q, h4, h5⟩ := h v (by simp)
    refine ⟨xs :: nx, Q ++ P, by simp [h1], fun i rv r hr hn => ?_, poolA_append h5 h3⟩
    cases i with
    | zero =>
      simp at hr hn
      subst hr hn
      exact h4.mono fun x hx => List.mem_append.2 (.inl hx)
    | succ i =>
      simp at hr hn
      exact (h2 i rv r hr hn).mono fun x hx => List.mem_append.2 (.inr hx)
instance : Inhabited Mk := ⟨⟨0, 0, 0, 0, 0⟩⟩
instance : Inhabited Value := ⟨.nilIface⟩
theorem take5 {α : Type} {cs : List α} (h : cs.length = 5) : ∃ a b c d e, cs = [a, b, c, d, e] := by
  match cs, h with
  | [a, b, c, d, e], _ => exact ⟨a, b, c, d, e, rfl⟩
theorem open_make {n : Nat} {cs : List Value} {y : DataW H × List MemPlace} (hl : cs.length = 5) (h : DataW.trod enc Try.prog w base spare held n 115 cs = some y) : ∃ m : Mk, cs = mkL m ∧ m.Fits := by
  obtain ⟨a, b, c, d, e, rfl⟩ := take5 hl
  obtain ⟨xs, k, _, _, _, hxl, hf⟩ := DataW.trod_struct Try.underlying115 h
  have c3 : Try.prog.cellsOf 3 = 1 := by kernel_rfl
  have c5 : Try.prog.cellsOf 5 = 1 := by kernel_rfl
  have get : ∀ i, i < 5 → ∃ y, xs[i]? = some y := fun i hi => ⟨xs[i]'(by rw [hxl]; exact hi), List.getElem?_eq_getElem _⟩
  obtain ⟨y0, g0⟩ := get 0 (by omega)
  obtain ⟨y1, g1⟩ := get 1 (by omega)
  obtain ⟨y2, g2⟩ := get 2 (by omega)
  obtain ⟨y3, g3⟩ := get 3 (by omega)
  obtain ⟨y4, g4⟩ := get 4 (by omega)
  have f0 : DataW.trod enc Try.prog w base spare held k 3 ((([a, b, c, d, e] : List Value).drop 0).take (Try.prog.cellsOf 3)) = some y0 := (hf 0 _ rfl).trans g0
  rw [c3] at f0
  have f1 : DataW.trod enc Try.prog w base spare held k 5 ((([a, b, c, d, e] : List Value).drop 1).take (Try.prog.cellsOf 5)) = some y1 := (hf 1 _ rfl).trans g1
  rw [c5] at f1
  have f2 : DataW.trod enc Try.prog w base spare held k 3 ((([a, b, c, d, e] : List Value).drop 2).take (Try.prog.cellsOf 3)) = some y2 := (hf 2 _ rfl).trans g2
  rw [c3] at f2
  have f3 : DataW.trod enc Try.prog w base spare held k 3 ((([a, b, c, d, e] : List Value).drop 3).take (Try.prog.cellsOf 3)) = some y3 := (hf 3 _ rfl).trans g3
  rw [c3] at f3
  have f4 : DataW.trod enc Try.prog w base spare held k 3 ((([a, b, c, d, e] : List Value).drop 4).take (Try.prog.cellsOf 3)) = some y4 := (hf 4 _ rfl).trans g4
  rw [c3] at f4
  obtain ⟨z0, e0, _, w0⟩ := DataW.trod_int Try.underlying3 f0
  obtain ⟨z1, e1, _, w1⟩ := DataW.trod_int Try.underlying5 f1
  obtain ⟨z2, e2, _, w2⟩ := DataW.trod_int Try.underlying3 f2
  obtain ⟨z3, e3, _, w3⟩ := DataW.trod_int Try.underlying3 f3
  obtain ⟨z4, e4, _, w4⟩ := DataW.trod_int Try.underlying3 f4
  simp only [List.drop_zero, List.take_succ_cons, List.take_zero, List.drop_succ_cons, List.cons.injEq, and_true] at e0 e1 e2 e3 e4
  obtain ⟨l, rfl, hl8⟩ := u8_wf w1
  subst e0 e1 e2 e3 e4
  exact ⟨⟨z0, l, z2, z3, z4⟩, rfl, ⟨i64_wf w0, hl8, i64_wf w2, i64_wf w3, i64_wf w4⟩⟩
theorem open_input {fuel : Nat} {cs : List Value} {x : DataW H × List MemPlace} (h : DataW.trod enc Try.prog w base spare held fuel 29 cs = some x) :
    ∃ (P : PoolT) (cv nv av hv lv : Value) (rvs : List Value) (R : Raw) (ms : List Mk) (N : Int), cs = [.int .i64 R.start, cv, nv, av, hv, lv, .int .i64 N] ∧ RawAt P cv nv av hv rvs R ∧ RowIn P mkL 5 lv ms ∧ (∀ m ∈ ms, m.Fits) ∧ fits64 R.start ∧ fits64 N ∧ (poolA P).ho w := by
  have c29 : Try.prog.cellsOf 29 = 7 := by kernel_rfl
  have c26 : Try.prog.cellsOf 26 = 4 := by kernel_rfl
  have c22 : Try.prog.cellsOf 22 = 1 := by kernel_rfl
  have c23 : Try.prog.cellsOf 23 = 1 := by kernel_rfl
  have c24 : Try.prog.cellsOf 24 = 1 := by kernel_rfl
  have c27 : Try.prog.cellsOf 27 = 1 := by kernel_rfl
  have c3 : Try.prog.cellsOf 3 = 1 := by kernel_rfl
  have c4 : Try.prog.cellsOf 4 = 1 := by kernel_rfl
  have c115 : Try.prog.cellsOf 115 = 5 := by kernel_rfl
  obtain ⟨y0, y1, y2, y3, n, _, hl, f0, f1, f2, f3⟩ := Joins.trod_struct4 Try.underlying29 h
  rw [c29] at hl
  obtain ⟨a0, a1, a2, a3, a4, a5, a6, rfl⟩ : ∃ a0 a1 a2 a3 a4 a5 a6, cs = [a0, a1, a2, a3, a4, a5, a6] := by
    match cs, hl with
    | [a0, a1, a2, a3, a4, a5, a6], _ => exact ⟨a0, a1, a2, a3, a4, a5, a6, rfl⟩
  simp only [c26, c22, c27, c3, List.drop_zero, List.take_succ_cons, List.take_zero, List.drop_succ_cons] at f0 f1 f2 f3
  obtain ⟨z0, z1, z2, z3, n2, _, _, g0, g1, g2, g3⟩ := Joins.trod_struct4 Try.underlying26 f0
  simp only [c22, c23, c24, c3, List.drop_zero, List.take_succ_cons, List.take_zero, List.drop_succ_cons] at g0 g1 g2 g3
  obtain ⟨st, e0, _, w0⟩ := DataW.trod_int Try.underlying3 g0
  obtain ⟨N, e6, _, w6⟩ := DataW.trod_int Try.underlying3 f3
  obtain ⟨cv, cls, P1, e1, r1, p1, _⟩ := open_ints_row Try.underlying22 Try.underlying3 c3 g1
  obtain ⟨nv, rvs, P2, e2, r2, p2, hrv⟩ := open_row (ec := encV) encV_len (by omega) Try.underlying23 c22 (fun v => ∃ (xs : List Int) (P : PoolT), RowIn P encZ 1 v xs ∧ (poolA P).ho w) (fun n cs y hl hy => by
    obtain ⟨v, xs, P, rfl, hr, hp, _⟩ := open_ints_row Try.underlying22 Try.underlying3 c3 hy
    exact ⟨v, rfl, xs, P, hr, hp⟩) g2
  obtain ⟨av, acc, P3, e3, r3, p3, _⟩ := open_row (ec := encB) encB_len (by omega) Try.underlying24 c4 (fun _ => True) (fun n cs y hl hy => by
    obtain ⟨b, rfl, _⟩ := DataW.trod_bool Try.underlying4 hy
    exact ⟨b, rfl, trivial⟩) g3
  obtain ⟨hv, wts, P4, e4, r4, p4, _⟩ := open_ints_row Try.underlying22 Try.underlying3 c3 f1
  obtain ⟨lv, ms, P5, e5, r5, p5, hms⟩ := open_row (ec := mkL) mkL_len (by omega) Try.underlying27 c115 Mk.Fits (fun n cs y hl hy => open_make hl hy) f2
  obtain ⟨nx, P6, hlen, hrows, p6⟩ := rows_all hrv
  simp only [List.cons.injEq, and_true] at e0 e1 e2 e3 e4 e5 e6
  subst e0 e1 e2 e3 e4 e5 e6
  have i1 : ∀ x ∈ P1, x ∈ P1 ++ (P2 ++ (P3 ++ (P4 ++ (P5 ++ P6)))) := fun x hx => by simp [hx]
  have i2 : ∀ x ∈ P2, x ∈ P1 ++ (P2 ++ (P3 ++ (P4 ++ (P5 ++ P6)))) := fun x hx => by simp [hx]
  have i3 : ∀ x ∈ P3, x ∈ P1 ++ (P2 ++ (P3 ++ (P4 ++ (P5 ++ P6)))) := fun x hx => by simp [hx]
  have i4 : ∀ x ∈ P4, x ∈ P1 ++ (P2 ++ (P3 ++ (P4 ++ (P5 ++ P6)))) := fun x hx => by simp [hx]
  have i5 : ∀ x ∈ P5, x ∈ P1 ++ (P2 ++ (P3 ++ (P4 ++ (P5 ++ P6)))) := fun x hx => by simp [hx]
  have i6 : ∀ x ∈ P6, x ∈ P1 ++ (P2 ++ (P3 ++ (P4 ++ (P5 ++ P6)))) := fun x hx => by simp [hx]
  exact ⟨P1 ++ (P2 ++ (P3 ++ (P4 ++ (P5 ++ P6)))), _, _, _, _, _, rvs, ⟨st, cls, nx, acc, wts⟩, ms, N, rfl, ⟨r1.mono i1, r2.mono i2, hlen, fun i rv r h1 h2 => (hrows i rv r h1 h2).mono i6, r3.mono i3, r4.mono i4⟩, r5.mono i5, hms, i64_wf w0, i64_wf w6, poolA_append p1 (poolA_append p2 (poolA_append p3 (poolA_append p4 (poolA_append p5 p6))))⟩
theorem arg_input {r : Reach} {b0 : Nat} {v : Value} {d : DataW H} {p : List MemPlace} (hv : Value.okWide Try.prog w r b0 29 v) (h : DataW.Trod enc Try.prog w base spare held 29 v d p) :
    ∃ (P : PoolT) (cv nv av hv lv : Value) (rvs : List Value) (R : Raw) (ms : List Mk) (N : Int), v = .agg #[.int .i64 R.start, cv, nv, av, hv, lv, .int .i64 N] ∧ RawAt P cv nv av hv rvs R ∧ RowIn P mkL 5 lv ms ∧ (∀ m ∈ ms, m.Fits) ∧ fits64 R.start ∧ fits64 N ∧ (poolA P).ho w := by
  obtain ⟨cs, rfl, _⟩ := okWide_struct Try.underlying29 hv
  obtain ⟨fuel, hf⟩ := h
  obtain ⟨P, cv, nv, av, hv', lv, rvs, R, ms, N, e, h1⟩ := open_input hf
  refine ⟨P, cv, nv, av, hv', lv, rvs, R, ms, N, ?_, h1⟩
  have e2 : cs.toList = [.int .i64 R.start, cv, nv, av, hv', lv, .int .i64 N] := e
  rw [← e2]
theorem arg_int {r : Reach} {b0 : Nat} {v : Value} {d : DataW H} {p : List MemPlace} (hv : Value.okWide Try.prog w r b0 3 v) (h : DataW.Trod enc Try.prog w base spare held 3 v d p) : ∃ z, v = .int .i64 z ∧ fits64 z := by
  obtain ⟨z, rfl, h1, h2, h3⟩ := open_int Try.underlying3 hv h
  exact ⟨z, rfl, i64_wf h3⟩
end
end Go.Proofs.Ytijnhpaafhcndaa
end
section
namespace Go.Proofs.Ytijnhpaafhcndaa.lawSteps
open Go.ChangeShapes Go.WideShapes Go.ChangeAt Go.RowKit
open Go.Proofs.Ytijnhpaafhcndaa
set_option linter.unusedVariables false
set_option maxRecDepth 100000 in
theorem lifted (os : Os) (started : os.Started) (H : Type) (enc : TypeId × Value → H) :
    ReturnsInHanded {} Try.checked os 7 .any (Rows.locateStepsSpec.pre6 enc Try.prog Try.f7 Rows.locateStepsRow.domain false) (Rows.locateStepsSpec.post enc Try.prog Try.f7 false true false false) := by
  refine returnsInHanded_of_change (C := Try.checked) ownK started (by kernel_rfl) Try.func7
    (ChangeSpec.witness6 (enc := enc) (C := Try.checked) false ⟨#[], #[.agg #[.int .i64 0, .slice none 0 0, .slice none 0 0, .slice none 0 0, .slice none 0 0, .slice none 0 0, .int .i64 0], .int .i64 0], []⟩ 8 (by kernel_rfl) (by kernel_rfl) (by kernel_rfl) (by kernel_rfl)) ?_
  intro W base args ds gs before hval0 hW hcnd _
  have hval : ∀ (j : Nat) t v, Try.f7.params[j]? = some t → args[j]? = some v → Value.okWide Try.prog W .any base t v := hval0
  have hW' := hW
  obtain ⟨p, q, hA0, hV, rfl, hfz, hnd⟩ := hW
  have hA : DataW.TrodAll enc Try.prog W 0 (fun _ => true) true Try.f7.params.toList args.toList ds p := hA0
  rw [Try.params7] at hA hval
  obtain ⟨v0, vs0, d0, ds0, p0, q0, hargs, rfl, rfl, h0, r0⟩ := trodAll_cons hA
  obtain ⟨v1, vs1, d1, ds1, p1, q1, rfl, rfl, rfl, h1, r1⟩ := trodAll_cons r0
  obtain ⟨rfl, rfl, rfl⟩ := trodAll_nil r1
  obtain rfl : args = #[v0, v1] := by cases args; simp_all
  obtain ⟨rfl, rfl⟩ := trodVars_none hV
  have k0 := h0
  have lt0 : ∀ x ∈ p0, x.block < W.heap.size := by obtain ⟨m, hm⟩ := k0; exact DataW.trod_lt m _ _ _ hm
  have k1 := h1
  have lt1 : ∀ x ∈ p1, x.block < W.heap.size := by obtain ⟨m, hm⟩ := k1; exact DataW.trod_lt m _ _ _ hm
  obtain ⟨P, cv, nv, av, hv, lv, rvs, R, ms, N, rfl, hraw, hms, hf, hs, hN, hp⟩ := arg_input (hval 0 29 v0 rfl rfl) h0
  obtain ⟨z1, rfl, b1⟩ := arg_int (hval 1 3 v1 rfl rfl) h1
  clear hA0 hval0
  refine (steps_walk hraw hms hf hs hN b1 W hp).mono fun e W' ⟨he, bel⟩ => ?_
  subst he
  exact ⟨_, rfl, _, _, _, [], _, [], hW', trodAll_mk1 (shut_bool Try.underlying4 _), (trodAll_cons_mk (Below.trod laidOut_ok (by kernel_rfl) (of_decide_eq_true (by kernel_rfl)) k0 bel.below lt0) (trodAll_cons_mk (Below.trod laidOut_ok (by kernel_rfl) (of_decide_eq_true (by kernel_rfl)) k1 bel.below lt1) trodAll_mk0)), rfl, bel.below.frame _, fun h => by cases h⟩
theorem over : Rows.locateStepsRow.holds Try.pinned (OpenSpec.ofChange Rows.locateStepsSpec) :=
  OpenClaim.holds_of_wide 7 Try.f7 rfl rfl rfl rfl rfl rfl rfl ⟨rfl, rfl, rfl, rfl, rfl⟩ rfl rfl rfl rfl rfl (by kernel_rfl) Try.func7 (by kernel_rfl)
    (of_decide_eq_true (by kernel_rfl)) (by unfold Func.isWrapper; first | (rw [if_pos (by decide +kernel)]; kernel_rfl) | (rw [if_neg (by decide +kernel)]; exact ⟨rfl, rfl⟩))
    (fun os started H enc _ => lifted os started H enc)
theorem proved : Rows.LocateStepsSaid := over
#print axioms proved
end Go.Proofs.Ytijnhpaafhcndaa.lawSteps
end
