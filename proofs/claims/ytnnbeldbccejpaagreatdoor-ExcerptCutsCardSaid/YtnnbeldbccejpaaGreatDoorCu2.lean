/-
  ExcerptCuts: the given tied card: for every input the law returns true and leaves its arguments; the library's table is tied to the program's text by the given tie. No condition beyond the statement's own.
-/
import Derived.Test.YtnnbeldbccejpaaGreatDoorCu1
import Derived.ChangeOld
import Derived.Deep.Slices
import Derived.LaidMore
import Derived.Laws.Rows
import Derived.OpenShut
import Derived.ProofKit
import Derived.SevenTiedAt
import Derived.ShutString
import Derived.Stop.Joined
import Derived.Test.YtnnbeldbccejpaaGreatDoorCards
import Derived.Test.YtnnbeldbccejpaaGreatDoorTie
set_option linter.unusedSimpArgs false
set_option linter.unusedVariables false
set_option maxRecDepth 100000
set_option maxHeartbeats 80000000
namespace Go.Proofs.YtnnbeldbccejpaaGreatDoor
section
open Go.RowKit Go.Maps
attribute [local go_sem] InGr
theorem encT_one' : ∀ x, ∀ u ∈ encT x, u.oneCell' = true := by
 intro x u hu
 simp only [encT, List.mem_cons, List.not_mem_nil, or_false] at hu
 subst hu
 rfl
theorem run_append_in {α : Type} {enc : α → List Value} {t e ty : TypeId} (hte : sliceO t = some e) {z : Value} {k bytes : Nat} (hi : infoO e = some (z, k, bytes)) (hz : z.cells.size = k) (hk0 : 0 < k) (hb0 : 0 < bytes) {v : Value} {xs : List α} {w : World} (hrow : (rowsA enc e k v xs).ho w) {P : PoolT} {u : Value} {ys : List α} (hu : RowIn P enc k u ys) (hp : (poolA P).ho w) (hk : ∀ x, (enc x).length = k) (h1 : ∀ x, ∀ u ∈ enc x, u.oneCell' = true) (hb : (xs.length + ys.length) * bytes ≤ 140737488355328) (hy : 0 < ys.length) :
  ∃ v' w', (Builtin.append_ #[t, t] ty #[v, u]).run Tryz.prog w = .ok v' w' ∧ St w (rowsA enc e k v xs).fp [rowsA enc e k v' (xs ++ ys)] w' := by
 obtain ⟨i, h2, h3, h4, h5⟩ := infoO_ok hi
 unfold rowsA at hrow ⊢
 obtain ⟨ad, c, rfl, hmax, hpm⟩ := hu
 obtain ⟨g, o, rfl, hm⟩ := hpm hy
 have hr := pool_rng hp hm
 obtain ⟨v', w', r1, r2⟩ := run_append_st (P := Tryz.prog) t ty e i z k bytes (sliceO_ok hte) h2 h3 h4 h5 hz hk0 v xs.length (flatG enc xs) hrow ⟨g, o, none⟩ ys.length c (flatG enc ys) (flatG_len enc k hk ys) (fun j q hj => by rw [Addr.add_mid]; exact hr j q hj) (flatG_one h1 ys) hb hb0
 refine ⟨v', w', r1, ?_⟩
 rw [List.length_append, show flatG enc (xs ++ ys) = flatG enc xs ++ flatG enc ys by simp [flatG]]
 exact r2
section
variable {ops : Array Oper} {Q : Exit → Act → World → Prop} {rest : List Oper} {a : Act} {w w0 : World} {M : List Nat} {L R : List As} {o1 : Oper}
theorem AtSlice.zero {α : Type} (enc : α → List Value) {t e : TypeId} (H : St w0 M L w) (hw : Region.wanted o1 (yielded ops a.tmps) = true) (ho : o1.op = .buildSlice t 0 #[]) (hte : sliceO t = some e) {z : Value} {k bytes : Nat} (hi : infoO e = some (z, k, bytes)) (hk : ∀ x, (enc x).length = k)
  (h : ∀ b w', St w0 M (rowsA enc e k (.slice (some ⟨b, 0, none⟩) 0 0) [] :: L) w' → wpList Tryz.prog ops Q rest (a.put o1.dst (.slice (some ⟨b, 0, none⟩) 0 0)) w') : AtSlice Tryz.prog ops Q o1 t 0 #[] rest a w :=
 wpList_step fun _ hK => by
  rw [if_pos hw]
  unfold Oper.wp execOp
  simp only [ho, List.map_toArray, List.map_nil, Sem.run_bind, run_slice0 hte hi, Result.andThen_ok, Sem.run_pure]
  exact hK _ _ (h _ _ ((H.alloc (.cells #[] e)).conv (by rw [rowsA_fp', blk_fp]; rfl) fun hb => rowsA_of_blk (xs := []) (by rw [blk_ho] at hb; exact hb) (by simp [maxLen]) (by simp [flatG]) hk))
theorem AtAppend.pool {α : Type} {enc : α → List Value} {t e : TypeId} {x y : Operand} (H : St w0 M L w) (hw : Region.wanted o1 (yielded ops a.tmps) = true) (ho : o1.op = .call ⟨.builtin .append, #[x, y], #[t, t]⟩) (hte : sliceO t = some e) {z : Value} {k bytes : Nat} (hi : infoO e = some (z, k, bytes))
  (hz : z.cells.size = k) (hk0 : 0 < k) (hb0 : 0 < bytes) {v : Value} (hx : evalO a x = some v) {xs : List α} (hp : Pick L (rowsA enc e k v xs) R) {P : PoolT} {u : Value} (hy : evalO a y = some u) {ys : List α} (hu : RowIn P enc k u ys) (hpo : (poolA P).ho w) (hk : ∀ x, (enc x).length = k) (h1 : ∀ x, ∀ u ∈ enc x, u.oneCell' = true) (hb : (xs.length + ys.length) * bytes ≤ 140737488355328) (hy0 : 0 < ys.length)
  (h : ∀ ad cp w', St w0 M (rowsA enc e k (.slice ad (xs.length + ys.length) cp) (xs ++ ys) :: R) w' → wpList Tryz.prog ops Q rest (a.put o1.dst (.slice ad (xs.length + ys.length) cp)) w') : AtAppend Tryz.prog ops Q o1 t x y rest a w :=
 wpList_step fun _ hK => by
  rw [if_pos hw]
  have H' := H.pick hp
  obtain ⟨v', w', hr, hst⟩ := run_append_in (ty := o1.type) hte hi hz hk0 hb0 (H'.ho _ List.mem_cons_self) hu hpo hk h1 hb hy0
  unfold Oper.wp execOp
  simp only [ho, resolve, invoke, builtin, Sem.run_bind, Sem.run_pure, Result.andThen_ok, List.map_toArray, List.map_cons, List.map_nil, evalO_eq hx, evalO_eq hy, hr]
  obtain ⟨ad, cp, rfl, _⟩ := rowsA_shape (hst.ho _ List.mem_cons_self)
  have hst2 := H'.call hst
  simp only [List.length_append] at hst2 ⊢
  exact hK _ _ (h ad cp w' hst2)
end
section
variable {ops : Array Oper} {Q : Exit → Act → World → Prop} {rest : List Oper} {a : Act} {w : World} {o1 : Oper}
theorem run_append_empty {t e ty : TypeId} (hte : sliceO t = some e) {z : Value} {k bytes : Nat} (hi : infoO e = some (z, k, bytes)) {b c : Nat} {ad : Option Addr} {w : World} : (Builtin.append_ #[t, t] ty #[.slice (some ⟨b, 0, none⟩) 0 0, .slice ad 0 c]).run Tryz.prog w = .ok (.slice (some ⟨b, 0, none⟩) 0 0) w := by
 obtain ⟨i, h2, h3, h4, h5⟩ := infoO_ok hi
 have hu := sliceO_ok hte
 cases ad with
 |none => simp [Builtin.append_, run_underlying hu, sizeOf, typeInfo, h2, Builtin.lenOf, Builtin.firstCells, loadCells, loadCellsFrom, storeCells]
 |some x => simp [Builtin.append_, run_underlying hu, sizeOf, typeInfo, h2, Builtin.lenOf, Builtin.firstCells, loadCells, loadCellsFrom, storeCells]
theorem AtAppend.none {t e : TypeId} {x y : Operand} (hw : Region.wanted o1 (yielded ops a.tmps) = true) (ho : o1.op = .call ⟨.builtin .append, #[x, y], #[t, t]⟩) (hte : sliceO t = some e) {z : Value} {k bytes : Nat} (hi : infoO e = some (z, k, bytes)) {b c : Nat} {ad : Option Addr} (hx : evalO a x = some (.slice (some ⟨b, 0, Option.none⟩) 0 0)) (hy : evalO a y = some (.slice ad 0 c))
  (h : wpList Tryz.prog ops Q rest (a.put o1.dst (.slice (some ⟨b, 0, Option.none⟩) 0 0)) w) : AtAppend Tryz.prog ops Q o1 t x y rest a w :=
 wpList_step fun _ hK => by
  rw [if_pos hw]
  unfold Oper.wp execOp
  simp only [ho, resolve, invoke, builtin, Sem.run_bind, Sem.run_pure, Result.andThen_ok, List.map_toArray, List.map_cons, List.map_nil, evalO_eq hx, evalO_eq hy, run_append_empty hte hi]
  exact hK _ _ h
end
theorem nil_leaves (text : List Nat) : Leaves (text.map Tr.leaf) := fun t ht => by
 obtain ⟨b, _, rfl⟩ := List.mem_map.1 ht
 exact ⟨b, rfl⟩
theorem of_zero {X : Px} {ad : Option Addr} {c : Nat} (w : World) (h : (pA X).ho w) : Calls Tryz.prog 16 #[.pointer (some ⟨X.p, 0, none⟩), .slice ad 0 c] w fun e w' => e = .returned (.tuple #[.int .i64 0, .nilIface]) ∧ w' = w := by
 have HC0 := Lib.hid (pA_c0 h)
 clear h
 go_enter Tryz.func16, Tryz.ntmps16
 go_wp2_with (first | refine sL ?_ | (refine sS ?_; clear H; intros; rename_i H) | ((with_reducible refine isLoad ?_); refine AtLoad.cel rfl rfl rfl rfl HC0.out ?_; simp only [Act.put, puA, puB, puC]))
 go_ret2
 exact ⟨rfl, rfl⟩
theorem of_any {X : Px} {P : PoolT} {text : List Nat} {v : Value} (hX : PxOk X) (hr : RowIn P encT 1 v text) (hb : ∀ x ∈ text, x < 256) (hlen : text.length ≤ 65536) (hroom : X.S.list.length + 2 * text.length < X.S.most) (w : World) (hd : ((pA X).sep deA).ho w) (hp : ((pA X).sep (poolA P)).ho w) :
  Calls Tryz.prog 16 #[.pointer (some ⟨X.p, 0, none⟩), v] w fun e w' => ∃ (X' : Px) (id : Nat), e = .returned (.tuple #[.int .i64 id, .nilIface]) ∧ X.Ext X' ∧ PxOk X' ∧ IdIs X'.S id (text.map Tr.leaf) ∧ X'.S.list.length ≤ X.S.list.length + 2 * text.length ∧ St w (pA X).fp [pA X'] w' := by
 rcases Nat.eq_zero_or_pos text.length with h0 | h0
 ·obtain rfl := List.eq_nil_of_length_eq_zero h0
  obtain ⟨ad, c, rfl, _⟩ := hr
  rw [sep_ho] at hd
  refine (of_zero w hd.1).mono ?_
  rintro e w' ⟨rfl, rfl⟩
  exact ⟨X, 0, rfl, .refl _, hX, .inl ⟨rfl, rfl⟩, by omega, St.one hd.1⟩
 ·obtain ⟨T, t1, t2, t3⟩ := canon_exists (nil_leaves text) (fun e => by simp at e; rw [e] at h0; simp at h0) (by simp; omega)
  refine (of_p hX hr hb h0 hlen t1 t2 t3 w hd hp).mono ?_
  rintro e w' ⟨X', q1, q2, q3, q4, q5⟩
  rcases q4 with ⟨id, rfl, q6⟩ | ⟨_, q6⟩
  ·exact ⟨X', id, rfl, q1, q2, .inr ⟨T, q6, t1, t2⟩, q3, q5⟩
  ·have h9 : X'.S.most = X.S.most := q1.le.1
   omega
theorem is_c {X : Px} {P : PoolT} {text : List Nat} {v : Value} {id : Nat} (hX : PxOk X) (hr : RowIn P encT 1 v text) (hb : ∀ x ∈ text, x < 256) (hlen : text.length ≤ 65536) (hroom : X.S.list.length + 2 * text.length < X.S.most) (hid : IdIs X.S id (text.map Tr.leaf)) (w : World) (hd : ((pA X).sep deA).ho w) (hpo : ((pA X).sep (poolA P)).ho w) :
  Calls Tryz.prog 13 #[.pointer (some ⟨X.p, 0, none⟩), .int .i64 id, v] w fun e w' => ∃ X' : Px, e = .returned (.bool true) ∧ X.Ext X' ∧ PxOk X' ∧ X'.S.list.length ≤ X.S.list.length + 2 * text.length ∧ St w (pA X).fp [pA X'] w' := by
 rw [sep_ho] at hd hpo
 obtain ⟨k1, k2, hdd⟩ := hd
 obtain ⟨_, k3, hde⟩ := hpo
 have H := St.one k1
 have HK : Ks w (pA X).fp [deA, poolA P] := Ks.cons k2 (fun b hb hm => hdd b hm hb) (Ks.cons k3 (fun b hb hm => hde b hm hb) (Ks.nil _ _))
 generalize (pA X).fp = N at *
 clear k1 k2 k3 hdd hde
 have HX := Lib.hid hX
 have HR := Lib.hid hr
 obtain ⟨ad, c, rfl, hmx⟩ := hr.shape
 obtain ⟨n, hn⟩ : ∃ n, text.length = n := ⟨_, rfl⟩
 have HOF : Hid (∀ (P2 : PoolT) (v2 : Value), RowIn P2 encT 1 v2 text → ∀ w, ((pA X).sep deA).ho w → ((pA X).sep (poolA P2)).ho w → Calls Tryz.prog 16 #[.pointer (some ⟨X.p, 0, none⟩), v2] w fun e w' => ∃ (X' : Px) (id : Nat), e = .returned (.tuple #[.int .i64 id, .nilIface]) ∧ X.Ext X' ∧ PxOk X' ∧ IdIs X'.S id (text.map Tr.leaf) ∧ X'.S.list.length ≤ X.S.list.length + 2 * text.length ∧ St w (pA X).fp [pA X'] w') := Lib.hid fun P2 v2 q w h1 h2 => of_any hX q hb hlen hroom w h1 h2
 have HID : Hid (∀ (X2 : Px) (id2 : Nat), X.Ext X2 → PxOk X2 → IdIs X2.S id2 (text.map Tr.leaf) → ((id : Int) == (id2 : Int)) = true) := Lib.hid fun X2 id2 q1 q2 q3 => by
  have := IdIs.uniq q2.ok (hid.le hX.ok q1.le) q3
  simp [this]
 rcases Nat.eq_zero_or_pos text.length with h0 | h0
 ·have ht := List.eq_nil_of_length_eq_zero h0
  subst ht
  simp only [List.length_nil] at hn
  subst hn
  have HR0 : Hid (∀ b, RowIn [] encT 1 (.slice (some ⟨b, 0, none⟩) 0 0) []) := Lib.hid fun b => ⟨_, _, rfl, by simp, fun h => by simp at h⟩
  simp only [List.length_nil] at HR
  clear hX hr hb hlen hroom hid hmx
  go_enter Tryz.func13, Tryz.ntmps13
  go_wp2_with (first | refine sL ?_ | (refine sS ?_; clear H; intros; rename_i H) | ((with_reducible refine isSlice ?_); refine AtSlice.zero encT H rfl rfl rfl rfl encT_len ?_; clear H; intro b9 _ H; simp only [Act.put, puA, puB, puC]) | ((with_reducible refine isAppend ?_); refine AtAppend.none rfl rfl rfl rfl rfl rfl ?_; simp only [Act.put, puA, puB, puC]))
  obtain ⟨P2, hr2, H2⟩ := St.to_pool (H.pick (A := rowsA encT 5 1 (.slice (some ⟨b9, 0, none⟩) 0 0) []) pk) encT_len
  clear H
  have H := H2
  clear H2
  go_at_call 16; with_reducible refine Calls.mono (HOF.out P2 _ hr2 _ (H.sepK (A := pA X) HK pk pk) (H.sepO (A := pA X) pk pk)) ?_; rintro e9 wc ⟨X2, id2, rfl, y1, y2, y3, y4, hb⟩; have HY := Lib.hid (And.intro y1 (And.intro y2 (And.intro y3 y4))); clear y1 y2 y3 y4; replace H := (H.pick (A := pA X) pk).call hb; clear hb; simp only [List.cons_append, List.nil_append] at H
  have hii := HID.out X2 id2 HY.out.1 HY.out.2.1 HY.out.2.2.1
  go_wp2_with (first | refine sL ?_ | (refine sS ?_; clear H; intros; rename_i H) | fail)
  go_ret
  exact ⟨X2, rfl, HY.out.1, HY.out.2.1, HY.out.2.2.2, H.picks (.cons (A := pA X2) pk .nil)⟩
 ·have HL : Hid (text.length = n ∧ n ≤ 65536 ∧ 0 < n) := Lib.hid ⟨hn, by omega, by omega⟩
  rw [hn] at HR ⊢
  clear hX hr hb hlen hroom hid hmx h0 hn
  go_enter Tryz.func13, Tryz.ntmps13
  go_wp2_with (first | refine sL ?_ | (refine sS ?_; clear H; intros; rename_i H) | ((with_reducible refine isSlice ?_); refine AtSlice.zero encT H rfl rfl rfl rfl encT_len ?_; clear H; intro b9 _ H; simp only [Act.put, puA, puB, puC]) | ((with_reducible refine isAppend ?_); refine AtAppend.pool (enc := encT) (P := P) (ys := text) H rfl rfl rfl rfl rfl (by decide) (by decide) rfl pk rfl HR.out (H.known HK pk) encT_len encT_one' (by have := HL.out; simp; omega) (by have := HL.out; omega) ?_; clear H; intro ad9 cp9 _ H; simp only [Act.put, puA, puB, puC]))
  simp only [List.nil_append, List.length_nil, Nat.zero_add] at H
  obtain ⟨P2, hr2, H2⟩ := St.to_pool (H.pick (A := rowsA encT 5 1 (.slice ad9 text.length cp9) text) pk) encT_len
  clear H
  have H := H2
  clear H2
  go_at_call 16; with_reducible refine Calls.mono (HOF.out P2 _ hr2 _ (H.sepK (A := pA X) HK pk pk) (H.sepO (A := pA X) pk pk)) ?_; rintro e9 wc ⟨X2, id2, rfl, y1, y2, y3, y4, hb⟩; have HY := Lib.hid (And.intro y1 (And.intro y2 (And.intro y3 y4))); clear y1 y2 y3 y4; replace H := (H.pick (A := pA X) pk).call hb; clear hb; simp only [List.cons_append, List.nil_append] at H
  have hii := HID.out X2 id2 HY.out.1 HY.out.2.1 HY.out.2.2.1
  go_wp2_with (first | refine sL ?_ | (refine sS ?_; clear H; intros; rename_i H) | fail)
  go_ret
  exact ⟨X2, rfl, HY.out.1, HY.out.2.1, by have := HY.out.2.2.2; have := HL.out.1; omega, H.picks (.cons (A := pA X2) pk .nil)⟩
end
section
open Go.RowKit Go.Maps
attribute [local go_sem] InGr
section
variable {ops : Array Oper} {Q : Exit → Act → World → Prop} {rest : List Oper} {a : Act} {w w0 : World} {M : List Nat} {L : List As} {o1 : Oper}
theorem AtSlice.lit {t e : TypeId} {n : Nat} {ps : Array (Nat × Operand)} (H : St w0 M L w) (hw : Region.wanted o1 (yielded ops a.tmps) = true) (ho : o1.op = .buildSlice t n ps) (hte : sliceO t = some e) {z : Value} {k bytes : Nat} {cs : Array Value} (hi : infoO e = some (z, k, bytes)) (hk : k = 1) (hz : z.cells.size = 1) (hn : ¬ n * 1 > 2 ^ 24) (hn0 : ¬ n * 1 = 0)
  (hf : Instr.fill (fun i => some (i * 1, 1)) ((Array.range (n * 1)).map (z.cells[· % z.cells.size]!)) (ps.map fun (i, x) => (i, a.eval x)).toList = some cs)
  (h : ∀ b w', St w0 M (blk b (.cells cs e) :: L) w' → wpList Tryz.prog ops Q rest (a.put o1.dst (.slice (some ⟨b, 0, none⟩) n n)) w') : AtSlice Tryz.prog ops Q o1 t n ps rest a w :=
 wpList_step fun _ hK => by
  rw [if_pos hw]
  obtain ⟨i, h2, h3, h4, h5⟩ := infoO_ok hi
  subst hk
  have hr := run_buildSlice (P := Tryz.prog) w t e n (ps.map fun (i, x) => (i, a.eval x)) cs i z (sliceO_ok hte) h2 h3 (by rw [h4]; exact hn) (by rw [h4]; exact hn0) (by rw [h4]; exact hf)
  unfold Oper.wp execOp
  simp only [ho, Sem.run_bind, hr, Result.andThen_ok, Sem.run_pure]
  exact hK _ _ (h _ _ (H.alloc _))
end
theorem St.freeze {g : Nat} {cs : Array Value} {e : TypeId} {w0 w : World} {M : List Nat} {L : List As} (h : St w0 M (blk g (.cells cs e) :: L) w) : St w0 M (blk g (.cells cs e (cs.size, cs.size + 1)) :: L) (w.freeze ⟨g, cs.size, none⟩ 1) := by
 have hg : w.heap[g]? = some (.cells cs e) := h.at Pick.here
 have hs : (w.freeze ⟨g, cs.size, none⟩ 1).heap.size = w.heap.size := by unfold World.freeze; simp
 have hlt : g < w.heap.size := (Array.getElem?_eq_some_iff.1 hg).1
 refine St.turn h (A' := blk g (.cells cs e (cs.size, cs.size + 1))) (fun b hb => ?_) rfl rfl rfl hs ?_ (by rw [blk_fp, blk_fp])
 ·have hne : g ≠ b := fun e' => hb (by simp [blk, e'])
  unfold World.freeze
  simp only [Nat.succ_ne_zero, if_false]
  rw [Array.getElem?_modify, if_neg hne]
 ·rw [blk_ho]
  unfold World.freeze
  simp only [Nat.succ_ne_zero, if_false]
  rw [Array.getElem?_modify, if_pos rfl, hg]
  rfl
theorem run_conv {t : TypeId} (hte : sliceO t = some 5) {g n c : Nat} {cs : Array Value} {e : TypeId} {w : World} (hg : w.heap[g]? = some (.cells cs e)) : (convert t t (.slice (some ⟨g, 0, none⟩) n c)).run Tryz.prog w = .ok (.slice (some ⟨g, 0, none⟩) n c) (w.freeze ⟨g, cs.size, none⟩ 1) := by
 have hu := run_underlying (P := Tryz.prog) (sliceO_ok hte)
 have hu5 : Tryz.prog.underlying 5 = some (.int .u8) := by kernel_rfl
 have hu6 := run_underlying (P := Tryz.prog) hu5
 simp [convert, hu, hu6, markStringish, shape, freeze, Sem.run, World.shape?, hg]
def AtConv (P : Program) (ops : Array Oper) (Q : Exit → Act → World → Prop) (o : Oper) (_ : TypeId) (_ : Operand) (rest : List Oper) (a : Act) (w : World) : Prop := wpList P ops Q (o :: rest) a w
section
variable {ops : Array Oper} {Q : Exit → Act → World → Prop} {rest : List Oper} {a : Act} {w w0 : World} {M : List Nat} {L R : List As} {o1 : Oper} {dst : Option Tmp} {ty0 : TypeId} {pos : String} {aft : Array Edge} {gd : Option (Nat × Bool)}
theorem isConv {P : Program} {t : TypeId} {x : Operand} (h : AtConv P ops Q ⟨dst, .convert t t x, ty0, pos, aft, gd⟩ t x rest a w) : wpList P ops Q (⟨dst, .convert t t x, ty0, pos, aft, gd⟩ :: rest) a w := h
theorem AtConv.bytes {t e : TypeId} {x : Operand} (H : St w0 M L w) (hw : Region.wanted o1 (yielded ops a.tmps) = true) (ho : o1.op = .convert t t x) (hte : sliceO t = some 5) {g n c : Nat} (hx : a.eval x = .slice (some ⟨g, 0, none⟩) n c) {cs : Array Value} (hp : Pick L (blk g (.cells cs e)) R)
  (h : ∀ w', St w0 M (blk g (.cells cs e (cs.size, cs.size + 1)) :: R) w' → wpList Tryz.prog ops Q rest (a.put o1.dst (.slice (some ⟨g, 0, none⟩) n c)) w') : AtConv Tryz.prog ops Q o1 t x rest a w :=
 wpList_step fun _ hK => by
  rw [if_pos hw]
  have H' := H.pick hp
  have hg : w.heap[g]? = some (.cells cs e) := H'.at Pick.here
  unfold Oper.wp execOp
  simp only [ho, hx, Sem.run_bind, run_conv hte hg, Result.andThen_ok, Sem.run_pure]
  exact hK _ _ (h _ H'.freeze)
end
theorem St.blk_poolF {e : TypeId} {g : Nat} {cs : Array Value} {fr : Nat × Nat} {w0 w : World} {M : List Nat} {R : List As} (h : St w0 M (blk g (.cells cs e fr) :: R) w) : St w0 M (poolA [(g, 0, cs.toList)] :: R) w :=
 h.conv (by rw [poolA_fp, blk_fp]; rfl) fun hb => by
  rw [blk_ho] at hb
  rw [poolA_ho]
  intro x hx
  simp only [List.mem_cons, List.not_mem_nil, or_false] at hx
  subst hx
  refine ⟨(Array.getElem?_eq_some_iff.1 hb).1, fun j u hj => ?_⟩
  rw [cell_of_row w g (0 + j) cs e fr hb]
  simpa using hj
theorem sto_nil_ok : Sto.Ok ⟨1048576, []⟩ := ⟨Nat.le_refl _, by simp, fun i j x y h => by simp at h, fun i x h => by simp at h⟩
theorem awake_c (w : World) (hde : deA.ho w) : Calls Tryz.prog 29 #[] w fun e w' => e = .returned (.bool true) ∧ St w [] [] w' := by
 have H := St.nil w []
 have HK : Ks w [] [deA] := Ks.one hde
 clear hde
 have HNW : Hid (∀ w, Calls Tryz.prog 28 #[.int .i64 1048576] w fun e w' => ∃ p m, e = .returned (.pointer (some ⟨p, 0, none⟩)) ∧ St w [] [stoA p (.slice none 0 0) m ⟨1048576, []⟩] w') := Lib.hid fun w => new_c 1048576 (Nat.le_refl _) 1048576 rfl w
 have HSN : Hid (∀ ps pm w, (stoA ps (.slice none 0 0) pm ⟨1048576, []⟩).ho w → Calls Tryz.prog 27 #[.pointer (some ⟨ps, 0, none⟩)] w fun e w' => ∃ X : Px, X.s = ps ∧ X.S = ⟨1048576, []⟩ ∧ PxOk X ∧ e = .returned (.pointer (some ⟨X.p, 0, none⟩)) ∧ St w (stoA ps (.slice none 0 0) pm ⟨1048576, []⟩).fp [pA X] w') := Lib.hid fun ps pm w h => snew_c sto_nil_ok w h
 go_enter Tryz.func29, Tryz.ntmps29
 go_wp2_with (first | refine sL ?_ | (refine sS ?_; clear H; intros; rename_i H) | (go_at_call 28; with_reducible refine Calls.mono (HNW.out _) ?_; rintro e9 wc ⟨ps, pm, rfl, hb⟩; replace H := H.call0 hb; clear hb; simp only [List.cons_append, List.nil_append] at H) | (go_at_call 27; with_reducible refine Calls.mono (HSN.out _ _ _ (H.get (A := stoA ps (.slice none 0 0) pm ⟨1048576, []⟩) pk)) ?_; rintro e9 wc ⟨X, hxs, hxS, hxo, rfl, hb⟩; have HXN := Lib.hid (And.intro hxS hxo); clear hxs hxS hxo; replace H := (H.pick (A := stoA ps (.slice none 0 0) pm ⟨1048576, []⟩) pk).call hb; clear hb; simp only [List.cons_append, List.nil_append] at H) | ((with_reducible refine isSlice ?_); refine AtSlice.lit H rfl rfl rfl (cs := #[.int .u8 97, .int .u8 98, .int .u8 99, .int .u8 100, .int .u8 101]) rfl rfl rfl (by decide) (by decide) (by kernel_rfl) ?_; clear H; intro b9 _ H; simp only [Act.put, puA, puB, puC]) | ((with_reducible refine isConv ?_); refine AtConv.bytes (e := 5) H rfl rfl rfl rfl pk ?_; clear H; intro _ H; simp only [Act.put, puA, puB, puC]))
 obtain ⟨P2, hP2⟩ : ∃ P2 : PoolT, P2 = [(b9, 0, [.int .u8 97, .int .u8 98, .int .u8 99, .int .u8 100, .int .u8 101])] := ⟨_, rfl⟩
 have H2 := St.blk_poolF (H.pick (A := blk b9 (.cells #[.int .u8 97, .int .u8 98, .int .u8 99, .int .u8 100, .int .u8 101] 5 (5, 5 + 1))) pk)
 simp only [← hP2] at H2
 have hr2 : RowIn P2 encT 1 (.slice (some ⟨b9, 0, none⟩) 5 5) [97, 98, 99, 100, 101] := ⟨_, _, rfl, by simp [maxLen], fun _ => ⟨b9, 0, rfl, by rw [hP2]; exact List.mem_cons_self⟩⟩
 clear H hP2
 have H := H2
 clear H2
 have ho1 := fun w h1 h2 => of_any (X := X) (P := P2) HXN.out.2 hr2 (by decide) (by decide) (by rw [HXN.out.1]; decide) w h1 h2
 have HO1 := Lib.hid ho1
 clear ho1
 go_at_call 16; with_reducible refine Calls.mono (HO1.out _ (H.sepK (A := pA X) HK pk pk) (H.sepO (A := pA X) pk pk)) ?_; rintro e9 wc ⟨X2, id2, rfl, y1, y2, y3, y4, hb⟩; have HY := Lib.hid (And.intro y1 (And.intro y2 (And.intro y3 y4))); clear y1 y2 y3 y4; replace H := (H.pick (A := pA X) pk).call hb; clear hb; simp only [List.cons_append, List.nil_append] at H
 go_wp2_with (first | refine sL ?_ | (refine sS ?_; clear H; intros; rename_i H) | ((with_reducible refine isSlice ?_); refine AtSlice.lit H rfl rfl rfl (cs := #[.int .u8 98, .int .u8 99, .int .u8 100]) rfl rfl rfl (by decide) (by decide) (by kernel_rfl) ?_; clear H; intro b9 _ H; simp only [Act.put, puA, puB, puC]) | ((with_reducible refine isConv ?_); refine AtConv.bytes (e := 5) H rfl rfl rfl rfl pk ?_; clear H; intro _ H; simp only [Act.put, puA, puB, puC]))
 have HM2 : Hid (X2.S.most = 1048576 ∧ X2.S.list.length ≤ 10) := Lib.hid ⟨by rw [HY.out.1.le.1, HXN.out.1], by have := HY.out.2.2.2; rw [HXN.out.1] at this; simpa using this⟩
 obtain ⟨P2, hP2⟩ : ∃ P2 : PoolT, P2 = [(b9, 0, [.int .u8 98, .int .u8 99, .int .u8 100])] := ⟨_, rfl⟩
 have H2 := St.blk_poolF (H.pick (A := blk b9 (.cells #[.int .u8 98, .int .u8 99, .int .u8 100] 5 (3, 3 + 1))) pk)
 simp only [← hP2] at H2
 have hr2 : RowIn P2 encT 1 (.slice (some ⟨b9, 0, none⟩) 3 3) [98, 99, 100] := ⟨_, _, rfl, by simp [maxLen], fun _ => ⟨b9, 0, rfl, by rw [hP2]; exact List.mem_cons_self⟩⟩
 clear H hP2
 have H := H2
 clear H2
 have ho2 := fun w h1 h2 => of_any (X := X2) (P := P2) HY.out.2.1 hr2 (by decide) (by decide) (by rw [HM2.out.1]; have := HM2.out.2; simp only [List.length_cons, List.length_nil]; omega) w h1 h2
 rw [HY.out.1.p] at ho2
 have HO2 := Lib.hid ho2
 clear ho2
 go_at_call 16; with_reducible refine Calls.mono (HO2.out _ (H.sepK (A := pA X2) HK pk pk) (H.sepO (A := pA X2) pk pk)) ?_; rintro e9 wc ⟨X3, id3, rfl, y1, y2, y3, y4, hb⟩; have HZ := Lib.hid (And.intro y1 (And.intro y2 (And.intro y3 y4))); clear y1 y2 y3 y4; replace H := (H.pick (A := pA X2) pk).call hb; clear hb; simp only [List.cons_append, List.nil_append] at H
 have hse := fun w h => Section_ok (X := X3) (x := id2) (from_ := 1) (n := 3) HZ.out.2.1 (HY.out.2.2.1.le HY.out.2.1.ok HZ.out.1.le) (by decide) (by decide) (by rw [HZ.out.1.le.1, HM2.out.1]; have h8 := HM2.out.2; have h7 := HZ.out.2.2.2; simp only [List.length_cons, List.length_nil, List.length_map] at h7 ⊢; omega) w h
 rw [(HY.out.1.trans HZ.out.1).p] at hse
 have HSE := Lib.hid hse
 clear hse
 go_wp2_with (first | refine sL ?_ | (refine sS ?_; clear H; intros; rename_i H) | fail)
 go_at_call 10; with_reducible refine Calls.mono (HSE.out _ (H.sepK (A := pA X3) HK pk pk)) ?_; rintro e9 wc ⟨X4, id4, rfl, y1, y2, y3, y4, hb⟩; have HW := Lib.hid (And.intro y1 (And.intro y2 (And.intro y3 y4))); clear y1 y2 y3 y4; replace H := (H.pick (A := pA X3) pk).call hb; clear hb; simp only [List.cons_append, List.nil_append] at H
 have hid : id3 = id4 := IdIs.uniq HW.out.2.1.ok (HZ.out.2.2.1.le HZ.out.2.1.ok HW.out.1.le) (by have := HW.out.2.2.1; exact this)
 have hi0 : ¬ id4 = 0 := fun e => by
  have := HW.out.2.2.1
  rcases this with ⟨q, _⟩ | ⟨T, q, _⟩
  ·simp at q
  ·have := q.1; omega
 subst hid
 have e1 : ((id3 : Int) == (id3 : Int)) = true := by simp
 have e2 : ((id3 : Int) != 0) = true := by simp; omega
 have e3 : ((id3 : Int) == 0) = false := by simp; omega
 clear hi0
 go_wp2_with (first | refine sL ?_ | (refine sS ?_; clear H; intros; rename_i H) | fail)
 go_ret
 exact ⟨rfl, H.nix⟩
end
section
open Go.RowKit Go.Maps
attribute [local go_sem] InGr
theorem parsed_c {P : PoolT} {text : List Nat} {v : Value} (hr : RowIn P encT 1 v text) (hb : ∀ x ∈ text, x < 256) (hlen : text.length ≤ 1000) (w : World) (hde : deA.ho w) (hp : (poolA P).ho w) :
  Calls Tryz.prog 8 #[v] w fun e w' => ∃ (X : Px) (id : Nat), e = .returned (.tuple #[.pointer (some ⟨X.p, 0, none⟩), .int .i64 id, .bool true]) ∧ PxOk X ∧ X.S.most = 1048576 ∧ IdIs X.S id (text.map Tr.leaf) ∧ X.S.list.length ≤ 2 * text.length ∧ St w [] [pA X] w' := by
 have H := St.nil w []
 have HK : Ks w [] [deA, poolA P] := Ks.two hde hp
 clear hde hp
 have HNW : Hid (∀ w, Calls Tryz.prog 28 #[.int .i64 1048576] w fun e w' => ∃ p m, e = .returned (.pointer (some ⟨p, 0, none⟩)) ∧ St w [] [stoA p (.slice none 0 0) m ⟨1048576, []⟩] w') := Lib.hid fun w => new_c 1048576 (Nat.le_refl _) 1048576 rfl w
 have HSN : Hid (∀ ps pm w, (stoA ps (.slice none 0 0) pm ⟨1048576, []⟩).ho w → Calls Tryz.prog 27 #[.pointer (some ⟨ps, 0, none⟩)] w fun e w' => ∃ X : Px, X.s = ps ∧ X.S = ⟨1048576, []⟩ ∧ PxOk X ∧ e = .returned (.pointer (some ⟨X.p, 0, none⟩)) ∧ St w (stoA ps (.slice none 0 0) pm ⟨1048576, []⟩).fp [pA X] w') := Lib.hid fun ps pm w h => snew_c sto_nil_ok w h
 have HAW : Hid (∀ w, deA.ho w → Calls Tryz.prog 29 #[] w fun e w' => e = .returned (.bool true) ∧ St w [] [] w') := Lib.hid fun w h => awake_c w h
 have HR := Lib.hid hr
 obtain ⟨ad, c, rfl, hmx⟩ := hr.shape
 have HB := Lib.hid (And.intro hb hlen)
 obtain ⟨n, hn⟩ : ∃ n, text.length = n := ⟨_, rfl⟩
 rcases Nat.eq_zero_or_pos text.length with h0 | h0
 ·have ht := List.eq_nil_of_length_eq_zero h0
  subst ht
  simp only [List.length_nil] at hn
  subst hn
  have HR0 : Hid (∀ b, RowIn [] encT 1 (.slice (some ⟨b, 0, none⟩) 0 0) []) := Lib.hid fun b => ⟨_, _, rfl, by simp, fun h => by simp at h⟩
  simp only [List.length_nil] at HR
  clear hr hb hlen hmx
  go_enter Tryz.func8, Tryz.ntmps8
  go_wp2_with (first | refine sL ?_ | (refine sS ?_; clear H; intros; rename_i H) | (go_at_call 28; with_reducible refine Calls.mono (HNW.out _) ?_; rintro e9 wc ⟨ps, pm, rfl, hb⟩; replace H := H.call0 hb; clear hb; simp only [List.cons_append, List.nil_append] at H) | (go_at_call 27; with_reducible refine Calls.mono (HSN.out _ _ _ (H.get (A := stoA ps (.slice none 0 0) pm ⟨1048576, []⟩) pk)) ?_; rintro e9 wc ⟨X, hxs, hxS, hxo, rfl, hb⟩; have HXN := Lib.hid (And.intro hxS hxo); clear hxs hxS hxo; replace H := (H.pick (A := stoA ps (.slice none 0 0) pm ⟨1048576, []⟩) pk).call hb; clear hb; simp only [List.cons_append, List.nil_append] at H) | (go_at_call 29; with_reducible refine Calls.mono (HAW.out _ (H.known HK (A := deA) pk)) ?_; rintro e9 wc ⟨rfl, hb⟩; replace H := H.grew hb.below; clear hb) | ((with_reducible refine isSlice ?_); refine AtSlice.zero encT H rfl rfl rfl rfl encT_len ?_; clear H; intro b9 _ H; simp only [Act.put, puA, puB, puC]) | ((with_reducible refine isAppend ?_); refine AtAppend.none rfl rfl rfl rfl rfl rfl ?_; simp only [Act.put, puA, puB, puC]))
  obtain ⟨P2, hr2, H2⟩ := St.to_pool (H.pick (A := rowsA encT 5 1 (.slice (some ⟨b9, 0, none⟩) 0 0) []) pk) encT_len
  clear H
  have H := H2
  clear H2
  have ho1 := fun w h1 h2 => of_any (X := X) (P := P2) HXN.out.2 hr2 HB.out.1 (by have := HB.out.2; (try simp only [List.length_nil]); omega) (by rw [HXN.out.1]; have := HB.out.2; (try simp only [List.length_nil]); omega) w h1 h2
  have HO1 := Lib.hid ho1
  clear ho1
  go_at_call 16; with_reducible refine Calls.mono (HO1.out _ (H.sepK (A := pA X) HK pk pk) (H.sepO (A := pA X) pk pk)) ?_; rintro e9 wc ⟨X2, id2, rfl, y1, y2, y3, y4, hb⟩; have HY := Lib.hid (And.intro y1 (And.intro y2 (And.intro y3 y4))); clear y1 y2 y3 y4; replace H := (H.pick (A := pA X) pk).call hb; clear hb; simp only [List.cons_append, List.nil_append] at H
  go_wp2_with (first | refine sL ?_ | (refine sS ?_; clear H; intros; rename_i H) | fail)
  refine wp_region_h H 7 [] [] (by kernel_rfl) (by kernel_rfl) ?_
  apply Exists.intro
  refine ⟨fun w1 hw1 HX => ?_, fun bs wr Hr => ?_⟩
  ·refine sG ?_
   repeat (first | go_big_quiet_skip | refine sQ ?_ | fail | go_big_quiet_step (fail))
   exact wpQuiet_nil rfl
  clear H
  have H := Hr
  clear Hr
  replace H := sH H; refine sT ?_
  go_wp2_with (first | refine sL ?_ | (refine sS ?_; clear H; intros; rename_i H) | fail)
  go_ret3
  exact ⟨X2, id2, by rw [HY.out.1.p]; rfl, HY.out.2.1, by rw [HY.out.1.le.1, HXN.out.1], HY.out.2.2.1, by have := HY.out.2.2.2; rw [HXN.out.1] at this; first | (simpa using this) | (rw [← HL.out.1]; simpa using this), H.picks (.cons (A := pA X2) pk .nil)⟩
 ·have HL : Hid (text.length = n ∧ n ≤ 65536 ∧ 0 < n) := Lib.hid ⟨hn, by omega, by omega⟩
  rw [hn] at HR ⊢
  clear hr hb hlen hmx h0 hn
  go_enter Tryz.func8, Tryz.ntmps8
  go_wp2_with (first | refine sL ?_ | (refine sS ?_; clear H; intros; rename_i H) | (go_at_call 28; with_reducible refine Calls.mono (HNW.out _) ?_; rintro e9 wc ⟨ps, pm, rfl, hb⟩; replace H := H.call0 hb; clear hb; simp only [List.cons_append, List.nil_append] at H) | (go_at_call 27; with_reducible refine Calls.mono (HSN.out _ _ _ (H.get (A := stoA ps (.slice none 0 0) pm ⟨1048576, []⟩) pk)) ?_; rintro e9 wc ⟨X, hxs, hxS, hxo, rfl, hb⟩; have HXN := Lib.hid (And.intro hxS hxo); clear hxs hxS hxo; replace H := (H.pick (A := stoA ps (.slice none 0 0) pm ⟨1048576, []⟩) pk).call hb; clear hb; simp only [List.cons_append, List.nil_append] at H) | (go_at_call 29; with_reducible refine Calls.mono (HAW.out _ (H.known HK (A := deA) pk)) ?_; rintro e9 wc ⟨rfl, hb⟩; replace H := H.grew hb.below; clear hb) | ((with_reducible refine isSlice ?_); refine AtSlice.zero encT H rfl rfl rfl rfl encT_len ?_; clear H; intro b9 _ H; simp only [Act.put, puA, puB, puC]) | ((with_reducible refine isAppend ?_); refine AtAppend.pool (enc := encT) (P := P) (ys := text) H rfl rfl rfl rfl rfl (by decide) (by decide) rfl pk rfl HR.out (H.known HK pk) encT_len encT_one' (by have := HL.out; simp; omega) (by have := HL.out; omega) ?_; clear H; intro ad9 cp9 _ H; simp only [Act.put, puA, puB, puC]))
  simp only [List.nil_append, List.length_nil, Nat.zero_add] at H
  obtain ⟨P2, hr2, H2⟩ := St.to_pool (H.pick (A := rowsA encT 5 1 (.slice ad9 text.length cp9) text) pk) encT_len
  clear H
  have H := H2
  clear H2
  have ho1 := fun w h1 h2 => of_any (X := X) (P := P2) HXN.out.2 hr2 HB.out.1 (by have := HB.out.2; (try simp only [List.length_nil]); omega) (by rw [HXN.out.1]; have := HB.out.2; (try simp only [List.length_nil]); omega) w h1 h2
  have HO1 := Lib.hid ho1
  clear ho1
  go_at_call 16; with_reducible refine Calls.mono (HO1.out _ (H.sepK (A := pA X) HK pk pk) (H.sepO (A := pA X) pk pk)) ?_; rintro e9 wc ⟨X2, id2, rfl, y1, y2, y3, y4, hb⟩; have HY := Lib.hid (And.intro y1 (And.intro y2 (And.intro y3 y4))); clear y1 y2 y3 y4; replace H := (H.pick (A := pA X) pk).call hb; clear hb; simp only [List.cons_append, List.nil_append] at H
  go_wp2_with (first | refine sL ?_ | (refine sS ?_; clear H; intros; rename_i H) | fail)
  refine wp_region_h H 7 [] [] (by kernel_rfl) (by kernel_rfl) ?_
  apply Exists.intro
  refine ⟨fun w1 hw1 HX => ?_, fun bs wr Hr => ?_⟩
  ·refine sG ?_
   repeat (first | go_big_quiet_skip | refine sQ ?_ | fail | go_big_quiet_step (fail))
   exact wpQuiet_nil rfl
  clear H
  have H := Hr
  clear Hr
  replace H := sH H; refine sT ?_
  go_wp2_with (first | refine sL ?_ | (refine sS ?_; clear H; intros; rename_i H) | fail)
  go_ret3
  exact ⟨X2, id2, by rw [HY.out.1.p]; rfl, HY.out.2.1, by rw [HY.out.1.le.1, HXN.out.1], HY.out.2.2.1, by have := HY.out.2.2.2; rw [HXN.out.1] at this; first | (simpa using this) | (rw [← HL.out.1]; simpa using this), H.picks (.cons (A := pA X2) pk .nil)⟩
def offV (a : Int) (n : Nat) : Int := if (bits BinOp.and IntKind.i64 a 7 == 0) = true then a else (bits BinOp.and IntKind.i64 (a / 8) 2305843009213693951).tmod ((n + 1 : Nat) : Int)
theorem offset_c (a : Int) (n : Nat) (hn : n ≤ 1000) (w : World) : Calls Tryz.prog 9 #[.int .i64 a, .int .i64 (n : Nat)] w fun e w' => e = .returned (.int .i64 (offV a n)) ∧ w' = w := by
 obtain ⟨n1, hn1⟩ : ∃ n1, n + 1 = n1 := ⟨_, rfl⟩
 have i1 : (n : Int) + 1 = (n1 : Nat) := by omega
 have i2 : ((n1 : Int) == 0) = false := by simp; omega
 have i3 : ¬ (n1 : Int) = 0 := by omega
 have i4 : ¬ n1 = 0 := by omega
 have i5 : n1 ≤ 1001 := by omega
 have HN1 := Lib.hid hn1
 clear hn1
 go_enter Tryz.func9, Tryz.ntmps9
 go_wp2_with (first | refine sL ?_ | (refine sS ?_; clear H; intros; rename_i H) | fail)
 all_goals go_ret
 ·rename_i h
  exact ⟨by rw [offV, if_pos h]; rfl, rfl⟩
 ·rename_i h
  exact ⟨by rw [offV, if_neg (by rw [h]; exact Bool.false_ne_true), HN1.out]; rfl, rfl⟩
end
section
open Go.RowKit Go.Maps
attribute [local go_sem] InGr
theorem run_assert_int {P : Program} {t xT : TypeId} {k : IntKind} {v : Value} {w : World} (h : P.underlying t = some (.int k)) : (Instr.typeAssert (.iface t v) xT t true).run P w = .ok (.tuple #[v, .bool true]) w := by
 simp [Instr.typeAssert, run_underlying h, go_sem, Result.andThen]
theorem errno_under : Tryz.prog.underlying 34 = some (.int .i64) := by kernel_rfl
section
variable {ops : Array Oper} {Q : Exit → Act → World → Prop} {rest : List Oper} {a : Act} {w : World} {o1 : Oper} {dst : Option Tmp} {ty0 : TypeId} {pos : String} {aft : Array Edge} {gd : Option (Nat × Bool)}
def AtAssert (P : Program) (ops : Array Oper) (Q : Exit → Act → World → Prop) (o : Oper) (_ : Operand) (_ _ : TypeId) (_ : Bool) (rest : List Oper) (a : Act) (w : World) : Prop := wpList P ops Q (o :: rest) a w
theorem isAssert {P : Program} {t u : TypeId} {x : Operand} {ok : Bool} (h : AtAssert P ops Q ⟨dst, .typeAssert x t u ok, ty0, pos, aft, gd⟩ x t u ok rest a w) : wpList P ops Q (⟨dst, .typeAssert x t u ok, ty0, pos, aft, gd⟩ :: rest) a w := h
theorem AtAssert.errno {x : Operand} {xT : TypeId} {v : Value} (hw : Region.wanted o1 (yielded ops a.tmps) = true) (ho : o1.op = .typeAssert x xT 34 true) (hx : a.eval x = .iface 34 v)
  (h : wpList Tryz.prog ops Q rest (a.put o1.dst (.tuple #[v, .bool true])) w) : AtAssert Tryz.prog ops Q o1 x xT 34 true rest a w :=
 wpList_step fun _ hK => by
  rw [if_pos hw]
  unfold Oper.wp execOp
  simp only [ho, hx, Sem.run_bind, run_assert_int errno_under, Result.andThen_ok]
  exact hK _ _ h
end
theorem num_ev (n : Nat) (w : World) : Calls Tryz.prog 34 #[.iface 34 (.int .i64 n)] w fun e w' => e = .returned (.int .i64 n) ∧ w' = w := by
 have H := St.nil w []
 have HK := Ks.nil w []
 go_enter Tryz.func34, Tryz.ntmps34
 go_wp2_with (first | refine sL ?_ | ((with_reducible refine isAssert ?_); refine AtAssert.errno rfl rfl rfl ?_; simp only [Act.put, puA, puB, puC]))
 go_ret
 exact ⟨rfl, rfl⟩
theorem is_ev (n k : Nat) (hk : 0 < k) (b : Bool) (hb : ((n : Int) == (k : Int)) = b) (w : World) : Calls Tryz.prog 12 #[.iface 34 (.int .i64 n), .int .i64 k] w fun e w' => e = .returned (.bool b) ∧ w' = w := by
 have H := St.nil w []
 have HK := Ks.nil w []
 have HN := Lib.hid (fun w => num_ev n w)
 have h0 : ((k : Int) == 0) = false := by simp; omega
 have h1 : ((k : Int) != 0) = true := by simp; omega
 cases b with
 |false =>
  go_enter Tryz.func12, Tryz.ntmps12
  go_wp2_with (first | refine sL ?_ | (go_at_call 34; with_reducible refine same (HN.out _) ?_))
  go_ret
  exact ⟨rfl, rfl⟩
 |true =>
  go_enter Tryz.func12, Tryz.ntmps12
  go_wp2_with (first | refine sL ?_ | (go_at_call 34; with_reducible refine same (HN.out _) ?_))
  go_ret
  exact ⟨rfl, rfl⟩
section
variable {ops : Array Oper} {Q : Exit → Act → World → Prop} {rest : List Oper} {a : Act} {w w0 : World} {M : List Nat} {L R : List As} {o1 : Oper} {dst : Option Tmp} {ty0 : TypeId} {pos : String} {aft : Array Edge} {gd : Option (Nat × Bool)} {Rr : Value → World → Prop}
def cutA (ad : Option Addr) (c l : Nat) : Option Addr := if c = l then ad else ad.map (·.add l)
theorem run_sl {t e : TypeId} (hte : sliceO t = some e) {z : Value} {bytes : Nat} (hi : infoO e = some (z, 1, bytes)) {ad : Option Addr} {n c : Nat} (lo hi' : Option Nat) {l h : Nat} (hl : lo.getD 0 = l) (hh : hi'.getD n = h) (h1 : l ≤ h) (h2 : h ≤ c) (w : World) :
  (Instr.sliceAt t (.slice ad n c) (lo.map fun x => .int .i64 (x : Nat)) (hi'.map fun x => .int .i64 (x : Nat)) none).run Tryz.prog w = .ok (.slice (cutA ad c l) (h - l) (c - l)) w := by
 obtain ⟨i, e2, e3, e4, e5⟩ := infoO_ok hi
 have hu := sliceO_ok hte
 have hb : (Instr.sliceBound (Value.int .i64 (h : Nat)) c .sliceAcap).run Tryz.prog w = .ok h w := by
  unfold Instr.sliceBound
  simp [asIntOf, h2]
 have hb2 : (Instr.sliceBound (Value.int .i64 (l : Nat)) h .sliceB).run Tryz.prog w = .ok l w := by
  unfold Instr.sliceBound
  simp [asIntOf, h1]
 unfold cutA
 cases lo with
 |none =>
  simp at hl
  subst hl
  cases hi' with
  |none =>
   simp at hh
   subst hh
   simp [Instr.sliceAt, Instr.slice, Instr.sliceBounds, run_underlying hu, sizeOf, typeInfo, e2, e4, Sem.run_bind, Result.andThen]
  |some x =>
   simp at hh
   subst hh
   simp [Instr.sliceAt, Instr.slice, Instr.sliceBounds, run_underlying hu, sizeOf, typeInfo, e2, e4, Sem.run_bind, Result.andThen, hb]
 |some y =>
  simp at hl
  subst hl
  cases hi' with
  |none =>
   simp at hh
   subst hh
   simp [Instr.sliceAt, Instr.slice, Instr.sliceBounds, run_underlying hu, sizeOf, typeInfo, e2, e4, Sem.run_bind, Result.andThen, hb2]
  |some x =>
   simp at hh
   subst hh
   simp [Instr.sliceAt, Instr.slice, Instr.sliceBounds, run_underlying hu, sizeOf, typeInfo, e2, e4, Sem.run_bind, Result.andThen, hb, hb2]
def AtSeg (P : Program) (ops : Array Oper) (Q : Exit → Act → World → Prop) (o : Oper) (_ : TypeId) (_ : Operand) (_ _ : Option Operand) (rest : List Oper) (a : Act) (w : World) : Prop := wpList P ops Q (o :: rest) a w
theorem isSeg {P : Program} {t : TypeId} {x : Operand} {y1 y2 : Option Operand} (h : AtSeg P ops Q ⟨dst, .slice t x y1 y2 none, ty0, pos, aft, gd⟩ t x y1 y2 rest a w) : wpList P ops Q (⟨dst, .slice t x y1 y2 none, ty0, pos, aft, gd⟩ :: rest) a w := h
theorem AtSeg.row {t e : TypeId} {x : Operand} {y1 y2 : Option Operand} (lo hi' : Option Nat) (hw : Region.wanted o1 (yielded ops a.tmps) = true) (ho : o1.op = .slice t x y1 y2 none) (hte : sliceO t = some e) {z : Value} {bytes : Nat} (hi : infoO e = some (z, 1, bytes)) {ad : Option Addr} {n c : Nat} (hx : a.eval x = .slice ad n c) (hy1 : y1.map a.eval = lo.map fun x => .int .i64 (x : Nat)) (hy2 : y2.map a.eval = hi'.map fun x => .int .i64 (x : Nat))
  {l h m cr : Nat} (hl : lo.getD 0 = l) (hh : hi'.getD n = h) (h1 : l ≤ h) (h2 : h ≤ c) (hm : h - l = m) (hcr : c - l = cr) {ad' : Option Addr} (had : cutA ad c l = ad')
  (h9 : wpList Tryz.prog ops Q rest (a.put o1.dst (.slice ad' m cr)) w) : AtSeg Tryz.prog ops Q o1 t x y1 y2 rest a w :=
 wpList_step fun _ hK => by
  rw [if_pos hw]
  unfold Oper.wp execOp
  simp only [ho, hx, hy1, hy2, Option.map_none, Sem.run_bind, run_sl hte hi lo hi' hl hh h1 h2, Result.andThen_ok, Sem.run_pure, had, hm, hcr]
  exact hK _ _ h9
end
theorem flatT_get (xs : List Nat) (i : Nat) : (flatG encT xs)[i]? = xs[i]?.map fun x => (.int .u8 (x : Nat) : Value) := by
 have : flatG encT xs = xs.map fun x => (.int .u8 (x : Nat) : Value) := by
  unfold flatG
  induction xs with
  |nil => rfl
  |cons x xs ih => rw [List.flatMap_cons, ih]; rfl
 rw [this, List.getElem?_map]
def TxtIn (P : PoolT) (v : Value) (xs : List Nat) : Prop := ∃ ad c, v = .slice ad xs.length c ∧ xs.length ≤ c ∧ RowIn P encT 1 v xs
theorem TxtIn.row {P : PoolT} {v : Value} {xs : List Nat} (h : TxtIn P v xs) : RowIn P encT 1 v xs := by obtain ⟨_, _, _, _, h⟩ := h; exact h
theorem TxtIn.cut {P : PoolT} {ad : Option Addr} {n c : Nat} {xs : List Nat} (h : TxtIn P (.slice ad n c) xs) (l m : Nat) (h2 : l + m ≤ xs.length) :
  n = xs.length ∧ n ≤ c ∧ ∃ (ad' : Option Addr) (P' : PoolT), cutA ad c l = ad' ∧ (∀ x ∈ P, x ∈ P') ∧ (∀ w, (poolA P).ho w → (poolA P').ho w) ∧ TxtIn P' (.slice ad' m (c - l)) ((xs.drop l).take m) := by
 obtain ⟨ad0, c0, e1, hc, ad1, c1, e2, hmx, hr⟩ := h
 injection e1 with q1 q2 q3
 subst q1 q2 q3
 injection e2 with q1 q2 q3
 subst q1 q3
 have hlen : ((xs.drop l).take m).length = m := by simp; omega
 refine ⟨rfl, hc, ?_⟩
 rcases Nat.eq_zero_or_pos m with rfl | hm
 ·exact ⟨_, P, rfl, fun x h => h, fun w h => h, ⟨_, _, by rw [hlen], by omega, _, _, by rw [hlen], by omega, fun h => by omega⟩⟩
 ·obtain ⟨g, o, rfl, hp⟩ := hr (by omega)
  have hcl : ¬ c = l := by omega
  have had : cutA (some ⟨g, o, none⟩) c l = some ⟨g, o + l, none⟩ := by
   unfold cutA Addr.add
   rw [if_neg hcl]
   by_cases h0 : l = 0
   ·subst h0; simp
   ·simp [h0]
  refine ⟨_, (g, o + l, flatG encT ((xs.drop l).take m)) :: P, had, fun x h => List.mem_cons_of_mem _ h, fun w h => ?_, ⟨_, _, by rw [hlen], by omega, _, _, by rw [hlen], by omega, fun _ => ⟨g, o + l, rfl, List.mem_cons_self⟩⟩⟩
  rw [poolA_ho] at h ⊢
  intro x hx
  rcases List.mem_cons.1 hx with rfl | hx
  ·refine ⟨(h _ hp).1, fun j u hj => ?_⟩
   have := (h _ hp).2 (l + j) u (by
    rw [flatT_get] at hj ⊢
    rw [List.getElem?_take] at hj
    split at hj
    ·rwa [List.getElem?_drop] at hj
    ·simp at hj)
   simpa [Nat.add_assoc] using this
  ·exact h x hx
theorem TxtIn.mono {P Q : PoolT} {v : Value} {xs : List Nat} (h : TxtIn P v xs) (hs : ∀ x ∈ P, x ∈ Q) : TxtIn Q v xs := by
 obtain ⟨ad, c, h1, h2, h3⟩ := h
 exact ⟨ad, c, h1, h2, h3.mono hs⟩
end
section
open Go.RowKit Go.Maps
attribute [local go_sem] InGr
abbrev Sl3 := Option Addr × Nat × Nat
def encS (p : Sl3) : List Value := [.slice p.1 p.2.1 p.2.2]
theorem encS_len (v : Sl3) : (encS v).length = 1 := rfl
theorem encS_one (v : Sl3) : ∀ u ∈ encS v, u.oneCell' = true := by
 intro u hu
 simp only [encS, List.mem_singleton] at hu
 subst hu; rfl
def segV (ad : Option Addr) (c fr to : Nat) : Sl3 := (cutA ad c fr, to - fr, c - fr)
def PrtRel (w : World) (ad : Option Addr) (n c k : Nat) (ns : List Nat) (m : Nat) (v1 v2 v3 : Value) (wr : World) : Prop :=
 ∃ (i lo : Nat) (vs : List Sl3), m = k - i ∧ i ≤ k ∧ v2 = .int .i64 lo ∧ v3 = .int .i64 i ∧ (lo = cutFr ns i ∧ vs.length = i ∧ IncL n lo (ns.drop i) ∧ ∀ j, j < i → vs[j]? = some (segV ad c (cutFr ns j) (cutTo n ns j))) ∧ St w [] [rowsA encS 22 1 v1 vs] wr
def PrtRelN (w : World) (n k : Nat) (zs : List Int) (m : Nat) (v1 v2 v3 : Value) (wr : World) : Prop :=
 ∃ (i : Nat) (lo : Int) (vs : List Sl3), m = k - i ∧ i ≤ k ∧ v2 = .int .i64 lo ∧ v3 = .int .i64 i ∧ (0 ≤ lo ∧ lo ≤ n ∧ vs.length = i ∧ ¬ okZ n lo (zs.drop i)) ∧ St w [] [rowsA encS 22 1 v1 vs] wr
theorem parts14_ok {ad : Option Addr} {n c : Nat} {ns : List Nat} {av : Value} (hinc : IncL n 0 ns) (hnc : n ≤ c) (hk9 : ns.length ≤ 10) (hnb : n ≤ 1000) (w : World) (hr : (rowsA encZ 3 1 av (natZ ns)).ho w) :
  Calls Tryz.prog 19 #[.slice ad n c, av] w fun e w' => ∃ (v' : Value) (vs : List Sl3), e = .returned (.tuple #[v', .bool true]) ∧ (vs.length = ns.length + 1 ∧ ∀ j, j < ns.length + 1 → vs[j]? = some (segV ad c (cutFr ns j) (cutTo n ns j))) ∧ St w [] [rowsA encS 22 1 v' vs] w' := by
 obtain ⟨az, c9, rfl, hsz⟩ := rowsA_shape hr
 rw [natZ_len] at hr hsz ⊢
 obtain ⟨k, hk⟩ : ∃ n, ns.length = n := ⟨_, rfl⟩
 rw [hk] at hr hk9 ⊢
 have HK : Ks w [] [(rowsA encZ 3 1 (.slice az k c9) (natZ ns))] := Ks.one hr
 have H := St.nil w []
 have HIN : Hid (ns.length = k ∧ IncL n 0 ns ∧ n ≤ c) := Lib.hid ⟨hk, hinc, hnc⟩
 clear hr hk hinc hsz
 go_enter Tryz.func19, Tryz.ntmps19
 go_wp2_with (first | refine sL ?_ | (refine sS ?_; clear H; intros; rename_i H))
 replace H := H.empty (A := rowsA encS 22 1 (.slice none 0 0) []) (rowsA_nil _) (by rw [rowsA_fp']; rfl)
 go_loopg [6, 7, 8] k (fun m v1 v2 v3 wr => PrtRel w ad n c k ns m v1 v2 v3 wr)
 case atStart => exact ⟨0, 0, [], rfl, Nat.zero_le _, rfl, rfl, ⟨rfl, rfl, HIN.out.2.1, fun j h => absurd h (Nat.not_lt_zero _)⟩, H.picks (.cons (A := rowsA encS 22 1 (.slice none 0 0) []) pk .nil)⟩
 case round =>
  clear H
  obtain ⟨i, lo, vs, rfl, hik, rfl, rfl, hrel, H⟩ := hrel
  obtain ⟨ar, cr2, rfl, _⟩ := rowsA_shape (H.get (A := rowsA encS 22 1 _ vs) pk)
  have HLN : Hid (vs.length ≤ 10) := Lib.hid (by rw [hrel.2.1]; omega)
  have HREL := Lib.hid hrel
  obtain ⟨ad', had⟩ : ∃ x, cutA ad c lo = x := ⟨_, rfl⟩
  obtain ⟨cr, hcr⟩ : ∃ x, c - lo = x := ⟨_, rfl⟩
  by_cases hlt : i < k
  ·obtain ⟨a, ha⟩ : ∃ a, ns[i]? = some a := ⟨_, List.getElem?_eq_getElem (by rw [HIN.out.1]; exact hlt)⟩
   have hdr : ns.drop i = a :: ns.drop (i + 1) := by
    have := (List.getElem?_eq_some_iff.1 ha).1
    rw [List.drop_eq_getElem_cons this]
    congr 1
    exact (List.getElem?_eq_some_iff.1 ha).2
   have hinc := hrel.2.2.1
   rw [hdr] at hinc
   have HNI := Lib.hid hinc
   have hto : cutTo n ns i = a := cutTo_lt ha
   obtain ⟨m, hm⟩ : ∃ x, a - lo = x := ⟨_, rfl⟩
   have HSG := Lib.hid (And.intro hm (And.intro hcr had))
   have HNX : Hid (a = cutFr ns (i + 1) ∧ cutTo n ns i = a) := Lib.hid ⟨by rw [cutFr_succ (by rw [HIN.out.1]; exact hlt), hto], hto⟩
   have q1 := hinc.1
   have q2 := hinc.2.1
   obtain ⟨g, c8, e1, _⟩ := rowsA_cases (H.known HK (A := (rowsA encZ 3 1 (.slice az k c9) (natZ ns))) pk) (by have := HIN.out.1; first | (rw [natZ_len]; omega) | omega)
   injection e1 with e1 e2 e3
   subst e1
   clear e2 e3
   have HA : Hid (∀ w, (rowsA encZ 3 1 (.slice (some ⟨g, 0, none⟩) k c9) (natZ ns)).ho w → w.cell? ⟨g, i, none⟩ = some (.int .i64 (a : Nat))) := Lib.hid fun w h => rowsA_cell1 h encZ_len (x := (a : Int)) (natZ_get ha) rfl
   have d5 : decide ((i : Int) < (k : Int)) = true := by simp; omega
   have d6 : decide ((a : Int) < (lo : Int)) = false := by simp; omega
   have d7 : decide ((n : Int) < (a : Int)) = false := by simp; omega
   have d6n : decide (a < lo) = false := by simp; omega
   have d7n : decide (n < a) = false := by simp; omega
   have hab : a ≤ 1000 ∧ lo ≤ 1000 := by omega
   clear hinc hdr ha hto hm hcr had hrel
   go_wp2_with (first | refine sL ?_ | (refine sS ?_; clear H; intros; rename_i H) | ((with_reducible refine isSeg ?_); refine AtSeg.row (some lo) (some a) rfl rfl rfl rfl rfl rfl rfl rfl rfl HNI.out.1 (Nat.le_trans HNI.out.2.1 HIN.out.2.2) HSG.out.1 HSG.out.2.1 HSG.out.2.2 ?_; simp only [Act.put, puA, puB, puC]) | ((with_reducible refine isSlice ?_); refine AtSlice.one H rfl rfl rfl rfl rfl rfl rfl rfl rfl ?_; clear H; intro b _ H; simp only [Act.put, puA, puB, puC]) | ((with_reducible refine isAppend ?_); refine AtAppend.go (enc := encS) H rfl rfl rfl rfl rfl (by decide) (by decide) rfl pk rfl (H.at pk) [(ad', m, cr)] rfl (by simp [flatG, encS]) encS_len encS_one (by have := HLN.out; simp; omega) ?_; clear H; intro ad9 cp9 _ H; simp only [Act.put, puA, puB, puC]))
   go_roundg (k - (i + 1))
   case measure => omega
   case rel =>
    refine ⟨i + 1, a, vs ++ [(ad', m, cr)], rfl, by omega, rfl, rfl, ⟨HNX.out.1, by rw [List.length_append, HREL.out.2.1]; rfl, HNI.out.2.2, fun j hj => ?_⟩, H.picks (.cons (A := rowsA encS 22 1 _ (vs ++ [(ad', m, cr)])) pk .nil)⟩
    rcases Nat.lt_or_ge j i with h9 | h9
    ·rw [List.getElem?_append_left (by rw [HREL.out.2.1]; exact h9)]; exact HREL.out.2.2.2 j h9
    ·obtain rfl : j = i := by omega
     rw [List.getElem?_append_right (by rw [HREL.out.2.1]; exact Nat.le_refl _), HREL.out.2.1, HNX.out.2, ← HREL.out.1]
     simp [segV, HSG.out.1, HSG.out.2.1, HSG.out.2.2]
  ·obtain rfl : i = k := by omega
   have hto : cutTo n ns i = n := by rw [← HIN.out.1]; exact cutTo_end
   obtain ⟨m, hm⟩ : ∃ x, n - lo = x := ⟨_, rfl⟩
   have hlo : lo ≤ n := by
    have h1 := inc_part HIN.out.2.1 (i := i) (by rw [HIN.out.1]; exact Nat.le_refl _) (incL_le HIN.out.2.1)
    rw [hrel.1]; omega
   have HSG := Lib.hid (And.intro hm (And.intro hcr had))
   have HLO := Lib.hid hlo
   have HTO := Lib.hid hto
   have d5 : decide ((i : Int) < (i : Int)) = false := by simp
   have hab : lo ≤ 1000 := by omega
   clear hto hm hcr had hrel hlo hlt
   go_wp2_with (first | refine sL ?_ | (refine sS ?_; clear H; intros; rename_i H) | ((with_reducible refine isSeg ?_); refine AtSeg.row (some lo) none rfl rfl rfl rfl rfl rfl rfl rfl rfl HLO.out HIN.out.2.2 HSG.out.1 HSG.out.2.1 HSG.out.2.2 ?_; simp only [Act.put, puA, puB, puC]) | ((with_reducible refine isSlice ?_); refine AtSlice.one H rfl rfl rfl rfl rfl rfl rfl rfl rfl ?_; clear H; intro b _ H; simp only [Act.put, puA, puB, puC]) | ((with_reducible refine isAppend ?_); refine AtAppend.go (enc := encS) H rfl rfl rfl rfl rfl (by decide) (by decide) rfl pk rfl (H.at pk) [(ad', m, cr)] rfl (by simp [flatG, encS]) encS_len encS_one (by have := HLN.out; simp; omega) ?_; clear H; intro ad9 cp9 _ H; simp only [Act.put, puA, puB, puC]))
   go_ret2
   refine ⟨_, rfl, vs ++ [(ad', m, cr)], ⟨by rw [List.length_append, HREL.out.2.1]; rfl, fun j hj => ?_⟩, H.picks (.cons (A := rowsA encS 22 1 _ (vs ++ [(ad', m, cr)])) pk .nil)⟩
   rcases Nat.lt_or_ge j i with h9 | h9
   ·rw [List.getElem?_append_left (by rw [HREL.out.2.1]; exact h9)]; exact HREL.out.2.2.2 j h9
   ·obtain rfl : j = i := by omega
    rw [List.getElem?_append_right (by rw [HREL.out.2.1]; exact Nat.le_refl _), HREL.out.2.1, HTO.out, ← HREL.out.1]
    simp [segV, HSG.out.1, HSG.out.2.1, HSG.out.2.2]
theorem parts14_no {ad : Option Addr} {n c : Nat} {zs : List Int} {av : Value} (hno : ¬ okZ n 0 zs) (hnc : n ≤ c) (hk9 : zs.length ≤ 10) (hnb : n ≤ 1000) (w : World) (hr : (rowsA encZ 3 1 av zs).ho w) :
  Calls Tryz.prog 19 #[.slice ad n c, av] w fun e w' => e = .returned (.tuple #[.slice none 0 0, .bool false]) ∧ St w [] [] w' := by
 obtain ⟨az, c9, rfl, hsz⟩ := rowsA_shape hr
 obtain ⟨k, hk⟩ : ∃ n, zs.length = n := ⟨_, rfl⟩
 rw [hk] at hr hk9 ⊢
 have HK : Ks w [] [(rowsA encZ 3 1 (.slice az k c9) zs)] := Ks.one hr
 have H := St.nil w []
 have HIN : Hid (zs.length = k ∧ ¬ okZ n 0 zs ∧ n ≤ c) := Lib.hid ⟨hk, hno, hnc⟩
 clear hr hk hno hsz
 go_enter Tryz.func19, Tryz.ntmps19
 go_wp2_with (first | refine sL ?_ | (refine sS ?_; clear H; intros; rename_i H))
 replace H := H.empty (A := rowsA encS 22 1 (.slice none 0 0) []) (rowsA_nil _) (by rw [rowsA_fp']; rfl)
 go_loopg [6, 7, 8] k (fun m v1 v2 v3 wr => PrtRelN w n k zs m v1 v2 v3 wr)
 case atStart => exact ⟨0, 0, [], rfl, Nat.zero_le _, rfl, rfl, ⟨Int.le_refl _, by omega, rfl, HIN.out.2.1⟩, H.picks (.cons (A := rowsA encS 22 1 (.slice none 0 0) []) pk .nil)⟩
 case round =>
  clear H
  obtain ⟨i, lo0, vs, rfl, hik, rfl, rfl, hrel, H⟩ := hrel
  obtain ⟨lo, rfl⟩ : ∃ x : Nat, lo0 = (x : Int) := ⟨lo0.toNat, by have := hrel.1; omega⟩
  obtain ⟨ar, cr2, rfl, _⟩ := rowsA_shape (H.get (A := rowsA encS 22 1 _ vs) pk)
  have HLN : Hid (vs.length ≤ 10) := Lib.hid (by rw [hrel.2.2.1]; omega)
  have HREL := Lib.hid hrel
  have hlt : i < k := Nat.lt_of_not_le fun h9 => hrel.2.2.2 (by rw [List.drop_of_length_le (by rw [HIN.out.1]; exact h9)]; trivial)
  obtain ⟨a, ha⟩ : ∃ a, zs[i]? = some a := ⟨_, List.getElem?_eq_getElem (by rw [HIN.out.1]; exact hlt)⟩
  have hdr : zs.drop i = a :: zs.drop (i + 1) := by
   have := (List.getElem?_eq_some_iff.1 ha).1
   rw [List.drop_eq_getElem_cons this]
   congr 1
   exact (List.getElem?_eq_some_iff.1 ha).2
  have hno := hrel.2.2.2
  rw [hdr] at hno
  have hlob := hrel.2.1
  obtain ⟨g, c8, e1, _⟩ := rowsA_cases (H.known HK (A := (rowsA encZ 3 1 (.slice az k c9) zs)) pk) (by have := HIN.out.1; first | (rw [natZ_len]; omega) | omega)
  injection e1 with e1 e2 e3
  subst e1
  clear e2 e3
  have HA : Hid (∀ w, (rowsA encZ 3 1 (.slice (some ⟨g, 0, none⟩) k c9) zs).ho w → w.cell? ⟨g, i, none⟩ = some (.int .i64 (a : Int))) := Lib.hid fun w h => rowsA_cell1 h encZ_len (x := (a : Int)) ha rfl
  have d5 : decide ((i : Int) < (k : Int)) = true := by simp; omega
  clear hdr ha hrel
  by_cases c1 : a < (lo : Int)
  case' pos =>
   have d6 : decide (a < (lo : Int)) = true := by simpa using c1
  case' neg =>
   by_cases c2 : (n : Int) < a
   case neg =>
    have HNI : Hid (¬ okZ n a (zs.drop (i + 1))) := Lib.hid fun h9 => hno ⟨by omega, by omega, h9⟩
    obtain ⟨a, rfl⟩ : ∃ x : Nat, a = (x : Int) := ⟨a.toNat, by omega⟩
    have d6 : decide ((a : Int) < (lo : Int)) = false := by simp; omega
    have d7 : decide ((n : Int) < (a : Int)) = false := by simp; omega
    have d6n : decide (a < lo) = false := by simp; omega
    have d7n : decide (n < a) = false := by simp; omega
    obtain ⟨ad', had⟩ : ∃ x, cutA ad c lo = x := ⟨_, rfl⟩
    obtain ⟨cr, hcr⟩ : ∃ x, c - lo = x := ⟨_, rfl⟩
    obtain ⟨m, hm⟩ : ∃ x, a - lo = x := ⟨_, rfl⟩
    have HSG := Lib.hid (And.intro hm (And.intro hcr had))
    have HLE : Hid (lo ≤ a ∧ a ≤ n) := Lib.hid (by omega)
    have hab : a ≤ 1000 ∧ lo ≤ 1000 := by omega
    clear hno c1 c2 hm hcr had hlob
    go_wp2_with (first | refine sL ?_ | (refine sS ?_; clear H; intros; rename_i H) | ((with_reducible refine isSeg ?_); refine AtSeg.row (some lo) (some a) rfl rfl rfl rfl rfl rfl rfl rfl rfl HLE.out.1 (Nat.le_trans HLE.out.2 HIN.out.2.2) HSG.out.1 HSG.out.2.1 HSG.out.2.2 ?_; simp only [Act.put, puA, puB, puC]) | ((with_reducible refine isSlice ?_); refine AtSlice.one H rfl rfl rfl rfl rfl rfl rfl rfl rfl ?_; clear H; intro b _ H; simp only [Act.put, puA, puB, puC]) | ((with_reducible refine isAppend ?_); refine AtAppend.go (enc := encS) H rfl rfl rfl rfl rfl (by decide) (by decide) rfl pk rfl (H.at pk) [(ad', m, cr)] rfl (by simp [flatG, encS]) encS_len encS_one (by have := HLN.out; simp; omega) ?_; clear H; intro ad9 cp9 _ H; simp only [Act.put, puA, puB, puC]))
    go_roundg (k - (i + 1))
    case measure => omega
    case rel => exact ⟨i + 1, a, vs ++ [(ad', m, cr)], rfl, by omega, rfl, rfl, ⟨by omega, by have := HLE.out.2; omega, by rw [List.length_append, HREL.out.2.2.1]; rfl, HNI.out⟩, H.picks (.cons (A := rowsA encS 22 1 _ (vs ++ [(ad', m, cr)])) pk .nil)⟩
   have d6 : decide (a < (lo : Int)) = false := by simpa using c1
   have d7 : decide ((n : Int) < a) = true := by simpa using c2
   clear c2
  all_goals
   clear hno c1 hlob
   go_wp2_with (first | refine sL ?_ | (refine sS ?_; clear H; intros; rename_i H))
   go_ret2
   exact ⟨rfl, H.nix⟩
end
section
open Go.RowKit Go.Maps
attribute [local go_sem] InGr
section
variable {ops : Array Oper} {a : Act} {w w0 : World} {M : List Nat} {L R : List As} {o1 : Oper} {Rr : Value → World → Prop}
theorem run_append_nil {t e ty : TypeId} (hte : sliceO t = some e) {z : Value} {k bytes : Nat} (hi : infoO e = some (z, k, bytes)) {n c c' : Nat} {ad ad' : Option Addr} (hn : n ≤ c) {w : World} : (Builtin.append_ #[t, t] ty #[.slice ad n c, .slice ad' 0 c']).run Tryz.prog w = .ok (.slice ad n c) w := by
 obtain ⟨i, h2, h3, h4, h5⟩ := infoO_ok hi
 have hu := sliceO_ok hte
 cases ad with
 |none => cases ad' with
  |none => simp [Builtin.append_, run_underlying hu, sizeOf, typeInfo, h2, Builtin.lenOf, Builtin.firstCells, loadCells, loadCellsFrom, storeCells, hn]
  |some x => simp [Builtin.append_, run_underlying hu, sizeOf, typeInfo, h2, Builtin.lenOf, Builtin.firstCells, loadCells, loadCellsFrom, storeCells, hn]
 |some y => cases ad' with
  |none => simp [Builtin.append_, run_underlying hu, sizeOf, typeInfo, h2, Builtin.lenOf, Builtin.firstCells, loadCells, loadCellsFrom, storeCells, hn]
  |some x => simp [Builtin.append_, run_underlying hu, sizeOf, typeInfo, h2, Builtin.lenOf, Builtin.firstCells, loadCells, loadCellsFrom, storeCells, hn]
end
end
section
open Go.RowKit Go.Maps
attribute [local go_sem] InGr
theorem cuts_pool {P : PoolT} {ad : Option Addr} {c : Nat} {xs : List Nat} (h : TxtIn P (.slice ad xs.length c) xs) : ∀ l : List (Nat × Nat), (∀ q ∈ l, q.1 + q.2 ≤ xs.length) → ∃ P' : PoolT, (∀ x ∈ P, x ∈ P') ∧ (∀ w, (poolA P).ho w → (poolA P').ho w) ∧ ∀ q ∈ l, RowIn P' encT 1 (.slice (cutA ad c q.1) q.2 (c - q.1)) ((xs.drop q.1).take q.2)
 |[], _ => ⟨P, fun _ h => h, fun _ h => h, by simp⟩
 |q :: l, hl => by
  obtain ⟨-, _, ad1, P1, rfl, hs1, hp1, ht1⟩ := h.cut q.1 q.2 (hl q (by simp))
  obtain ⟨P2, hs2, hp2, ht2⟩ := cuts_pool (h.mono hs1) l (fun q' hq => hl q' (by simp [hq]))
  refine ⟨P2, fun x hx => hs2 x (hs1 x hx), fun w hw => hp2 w (hp1 w hw), fun q' hq => ?_⟩
  rcases List.mem_cons.1 hq with rfl | hq
  ·exact ht1.row.mono hs2
  ·exact ht2 q' hq
section
variable {ops : Array Oper} {Q : Exit → Act → World → Prop} {rest : List Oper} {a : Act} {w w0 : World} {M : List Nat} {L R R' : List As} {o1 : Oper}
theorem AtAppend.own {α : Type} {enc : α → List Value} {t e : TypeId} {x y : Operand} (H : St w0 M L w) (hw : Region.wanted o1 (yielded ops a.tmps) = true) (ho : o1.op = .call ⟨.builtin .append, #[x, y], #[t, t]⟩) (hte : sliceO t = some e) {z : Value} {k bytes : Nat} (hi : infoO e = some (z, k, bytes))
  (hz : z.cells.size = k) (hk0 : 0 < k) (hb0 : 0 < bytes) {v : Value} (hx : evalO a x = some v) {xs : List α} (hp : Pick L (rowsA enc e k v xs) R) {u : Value} (hy : evalO a y = some u) {ys : List α} (hu : Pick L (rowsA enc e k u ys) R') (hk : ∀ x, (enc x).length = k) (h1 : ∀ x, ∀ u ∈ enc x, u.oneCell' = true) (hb : (xs.length + ys.length) * bytes ≤ 140737488355328) (hy0 : 0 < ys.length)
  (h : ∀ ad cp w', St w0 M (rowsA enc e k (.slice ad (xs.length + ys.length) cp) (xs ++ ys) :: R) w' → wpList Tryz.prog ops Q rest (a.put o1.dst (.slice ad (xs.length + ys.length) cp)) w') : AtAppend Tryz.prog ops Q o1 t x y rest a w := by
 obtain ⟨P, q1, q2, _⟩ := rowsA_pool (H.get hu) hk
 exact AtAppend.pool H hw ho hte hi hz hk0 hb0 hx hp hy q1 q2 hk h1 hb hy0 h
end
theorem encZ_one (x : Int) : ∀ u ∈ encZ x, u.oneCell' = true := by
 intro u hu
 simp only [encZ, List.mem_singleton] at hu
 subst hu; rfl
def CutsR1 (X : Px) (w : World) (n k : Nat) (zs0 : List Int) (m : Nat) (v1 v2 : Value) (wr : World) : Prop :=
 ∃ i : Nat, m = k - i ∧ i ≤ k ∧ v2 = .int .i64 i ∧ St w [] [pA X, rowsA encZ 3 1 v1 ((zs0.take i).map fun z => offV z n)] wr
def CutsR2 (X : Px) (w : World) (k : Nat) (iv pv : Value) (ids : List Nat) (vs : List Sl3) (m : Nat) (v1 : Value) (wr : World) : Prop :=
 ∃ (i : Nat) (X2 : Px), m = k + 1 - i ∧ i ≤ k + 1 ∧ v1 = .int .i64 i ∧ (X.Ext X2 ∧ PxOk X2 ∧ X2.S.list.length ≤ X.S.list.length + i * 1000) ∧ St w [] [pA X2, rowsA encI 24 1 iv ids, rowsA encS 22 1 pv vs] wr
def cutPart (text : List Nat) (n : Nat) (ns : List Nat) (j : Nat) : List Nat := (text.drop (cutFr ns j)).take (cutTo n ns j - cutFr ns j)
theorem cutPart_map (text : List Nat) (n : Nat) (ns : List Nat) (j : Nat) : ((text.map Tr.leaf).drop (cutFr ns j)).take (cutTo n ns j - cutFr ns j) = (cutPart text n ns j).map Tr.leaf := by
 unfold cutPart; simp [List.map_take, List.map_drop]
attribute [local go_sem] StStep stAt stUpon in
theorem cuts_c {P0 : PoolT} {text : List Nat} {zs0 : List Int} {v u : Value} (ht0 : TxtIn P0 v text) (hu0 : RowIn P0 encZ 1 u zs0) (hb : ∀ x ∈ text, x < 256) (w : World) (hde : deA.ho w) (hp0 : (poolA P0).ho w) :
  Calls Tryz.prog 6 #[v, u] w fun e w' => e = .returned (.bool true) ∧ St w [] [] w' := by
 obtain ⟨ad, c, rfl, hc, hr0⟩ := id ht0
 obtain ⟨au, cu, rfl, hu9⟩ := hu0.shape
 obtain ⟨n, hn⟩ : ∃ n, text.length = n := ⟨_, rfl⟩
 obtain ⟨k, hk⟩ : ∃ n, zs0.length = n := ⟨_, rfl⟩
 rcases Nat.lt_or_ge 500 text.length with h0 | hlen
 ·rw [hn] at h0 ⊢
  rw [hk]
  have H := St.nil w []
  have HK : Ks w [] [deA] := Ks.one hde
  have d1 : decide ((500 : Int) < (n : Int)) = true := by simp; omega
  have d2 : decide (500 < n) = true := by simp; omega
  have d3 : (500 : Int) < (n : Int) := by omega
  clear ht0 hr0 hn hc hb hp0 hde hu0 hu9 hk
  go_enter Tryz.func6, Tryz.ntmps6
  go_wp2_with (first | refine sL ?_ | (refine sS ?_; clear H; intros; rename_i H))
  go_ret
  exact ⟨rfl, H⟩
 rcases Nat.lt_or_ge 10 zs0.length with h0 | hkl
 ·rw [hk] at h0 ⊢
  rw [hn] at hlen ⊢
  have H := St.nil w []
  have HK : Ks w [] [deA] := Ks.one hde
  have d1 : decide ((500 : Int) < (n : Int)) = false := by simp; omega
  have d2 : decide (500 < n) = false := by simp; omega
  have d3 : decide ((10 : Int) < (k : Int)) = true := by simp; omega
  have d4 : decide (10 < k) = true := by simp; omega
  clear ht0 hr0 hn hc hb hp0 hde hu0 hu9 hk
  go_enter Tryz.func6, Tryz.ntmps6
  go_wp2_with (first | refine sL ?_ | (refine sS ?_; clear H; intros; rename_i H))
  go_ret
  exact ⟨rfl, H⟩
 have d1 : decide ((500 : Int) < (n : Int)) = false := by simp; omega
 have d2 : decide (500 < n) = false := by simp; omega
 have d3 : decide ((10 : Int) < (k : Int)) = false := by simp; omega
 have d4 : decide (10 < k) = false := by simp; omega
 have hnb : n ≤ 500 ∧ k ≤ 10 := by omega
 obtain ⟨zs, hzs⟩ : ∃ zs, zs0.map (fun z => offV z n) = zs := ⟨_, rfl⟩
 have hzl : zs.length = k := by rw [← hzs]; simp [hk]
 have HB : Hid (text.length ≤ 500 ∧ k ≤ 10 ∧ ∀ x ∈ text, x < 256) := Lib.hid ⟨hlen, by omega, hb⟩
 have HU : Hid (RowIn P0 encZ 1 (.slice au k cu) zs0 ∧ zs0.length = k ∧ zs0.map (fun z => offV z n) = zs ∧ zs.length = k) := Lib.hid ⟨by rw [← hk]; exact hu0, hk, hzs, hzl⟩
 have hlen9 : text.length ≤ 1000 := by omega
 have ht := ht0
 have HPA : Hid (∀ w, deA.ho w → (poolA P0).ho w → Calls Tryz.prog 8 #[.slice ad n c] w fun e w' => ∃ (X : Px) (id : Nat), e = .returned (.tuple #[.pointer (some ⟨X.p, 0, none⟩), .int .i64 id, .bool true]) ∧ PxOk X ∧ X.S.most = 1048576 ∧ IdIs X.S id (text.map Tr.leaf) ∧ X.S.list.length ≤ 2 * text.length ∧ St w [] [pA X] w') := Lib.hid fun w h1 h2 => parsed_c (by have := ht.row; rwa [hn] at this) hb (by omega) w h1 h2
 have HNC : Hid (n ≤ c ∧ n ≤ 500 ∧ text.length = n) := Lib.hid ⟨by omega, by omega, hn⟩
 have HEI : Hid (∀ w, Calls Tryz.prog 12 #[EV 1, .int .i64 (1 : Int)] w fun e w' => e = .returned (.bool true) ∧ w' = w) := Lib.hid fun w => is_ev 1 1 (by decide) true (by decide) w
 by_cases hok : okZ n 0 zs
 case' pos =>
  obtain ⟨ns, rfl, hinc⟩ := okZ_nat (lo := 0) hok
  rw [natZ_len] at hzl
  obtain ⟨P1, hs1, hp1, hri⟩ := cuts_pool (show TxtIn P0 (.slice ad text.length c) text from ht0) ((List.range (k + 1)).map fun j => (cutFr ns j, cutTo n ns j - cutFr ns j)) (fun q hq => by
   obtain ⟨j, hj, rfl⟩ := List.mem_map.1 hq
   have hj := List.mem_range.1 hj
   have := inc_part hinc (i := j) (by omega) (incL_le hinc)
   simp only
   omega)
  have HRI : Hid (∀ j, j ≤ k → RowIn P1 encT 1 (.slice (cutA ad c (cutFr ns j)) (cutTo n ns j - cutFr ns j) (c - cutFr ns j)) (cutPart text n ns j)) := Lib.hid fun j hj => hri _ (List.mem_map.2 ⟨j, List.mem_range.2 (by omega), rfl⟩)
  have HK : Ks w [] [deA, poolA P0, poolA P1] := ⟨by simp [hde, hp0, hp1 w hp0], by simp⟩
  have HPT : Hid (∀ av w, (rowsA encZ 3 1 av (natZ ns)).ho w → Calls Tryz.prog 19 #[.slice ad n c, av] w fun e w' => ∃ (v' : Value) (vs : List Sl3), e = .returned (.tuple #[v', .bool true]) ∧ (vs.length = k + 1 ∧ ∀ j, j < k + 1 → vs[j]? = some (segV ad c (cutFr ns j) (cutTo n ns j))) ∧ St w [] [rowsA encS 22 1 v' vs] w') := Lib.hid fun av w h => by
   have := parts14_ok (ad := ad) hinc HNC.out.1 (by omega) (by omega) w h
   rwa [hzl] at this
  have HCT : Hid (∀ (X : Px) (id : Nat), (PxOk X ∧ X.S.most = 1048576 ∧ IdIs X.S id (text.map Tr.leaf) ∧ X.S.list.length ≤ 2 * text.length) → ∀ av w, ((pA X).sep deA).ho w → ((pA X).sep (rowsA encZ 3 1 av (natZ ns))).ho w → Calls Tryz.prog 20 #[.pointer (some ⟨X.p, 0, none⟩), .int .i64 id, av] w fun e w' => ∃ (X' : Px) (v' : Value) (ids : List Nat), e = .returned (.tuple #[v', .nilIface]) ∧ X.Ext X' ∧ PxOk X' ∧ (ids.length = k + 1 ∧ ∀ j, j < k + 1 → ∃ id, ids[j]? = some id ∧ IdIs X'.S id (((text.map Tr.leaf).drop (cutFr ns j)).take (cutTo n ns j - cutFr ns j))) ∧ X'.S.list.length ≤ 12000 ∧ St w (pA X).fp [pA X', rowsA encI 24 1 v' ids] w') := Lib.hid fun X id q av w h1 h2 => by
   have hm : (ns.length + 1) * (2 * text.length) ≤ 11000 := by
    have h9 : (ns.length + 1) * (2 * text.length) ≤ 11 * (2 * 500) := Nat.mul_le_mul (by omega) (by omega)
    omega
   have := Cut_ok (x := id) q.1 q.2.2.1 (ns := ns) (by rw [List.length_map, hn]; exact hinc) (by omega) (by rw [List.length_map]; omega) (by rw [List.length_map, q.2.1]; have := q.2.2.2; omega) w h1 h2
   rw [List.length_map, hn, hzl] at this
   refine this.mono ?_
   rintro e w' ⟨X', v', ids, rfl, z1, z2, z3, z4, z5⟩
   rw [hn, hzl] at hm
   exact ⟨X', v', ids, rfl, z1, z2, z3, by have := q.2.2.2; omega, z5⟩
 case' neg =>
  have HPT : Hid (∀ av w, (rowsA encZ 3 1 av zs).ho w → Calls Tryz.prog 19 #[.slice ad n c, av] w fun e w' => e = .returned (.tuple #[.slice none 0 0, .bool false]) ∧ St w [] [] w') := Lib.hid fun av w h => parts14_no (ad := ad) hok HNC.out.1 (by omega) (by omega) w h
  have HCT : Hid (∀ (X : Px) (id : Nat), (PxOk X ∧ X.S.most = 1048576 ∧ IdIs X.S id (text.map Tr.leaf) ∧ X.S.list.length ≤ 2 * text.length) → ∀ av w, ((pA X).sep deA).ho w → ((pA X).sep (rowsA encZ 3 1 av zs)).ho w → Calls Tryz.prog 20 #[.pointer (some ⟨X.p, 0, none⟩), .int .i64 id, av] w (PPost X (.tuple #[.slice none 0 0, EV 1]) (pA X).fp w)) := Lib.hid fun X id q av w h1 h2 => Cut_no q.1 q.2.2.1 (by rw [List.length_map, hn]; exact hok) (by omega) w h1 h2
  have HK : Ks w [] [deA, poolA P0] := Ks.two hde hp0
 all_goals
  rw [hn, hk]
  have H := St.nil w []
  have HZ0 : Hid (zs0.length = k) := Lib.hid hk
  clear ht0 ht hr0 hn hc hb hp0 hde hu0 hu9 hk hlen hlen9 hkl hzs hzl
  go_enter Tryz.func6, Tryz.ntmps6
  go_wp2_with (first | refine sL ?_ | (refine sS ?_; clear H; intros; rename_i H) | (go_at_call 8; with_reducible refine Calls.mono (HPA.out _ (H.known HK (A := deA) pk) (H.known HK (A := poolA P0) pk)) ?_; rintro e9 wc ⟨X, id, rfl, y1, y2, y3, y4, hb⟩; have HX := Lib.hid (And.intro y1 (And.intro y2 (And.intro y3 y4))); clear y1 y2 y3 y4; replace H := H.call0 hb; clear hb; simp only [List.cons_append, List.nil_append] at H))
  replace H := H.empty (A := rowsA encZ 3 1 (.slice none 0 0) []) (rowsA_nil _) (by rw [rowsA_fp']; rfl)
  go_loopg [8, 9] k (fun mm v1 v2 wr => CutsR1 X w n k zs0 mm v1 v2 wr)
  case atStart => exact ⟨0, rfl, Nat.zero_le _, rfl, H.picks (.cons (A := pA X) pk (.cons (A := rowsA encZ 3 1 (.slice none 0 0) []) pk .nil))⟩
  case round =>
   clear H
   obtain ⟨i, rfl, hik, rfl, H⟩ := hrel
   obtain ⟨ar, cr, rfl, _⟩ := rowsA_shape (H.get (A := rowsA encZ 3 1 _ ((zs0.take i).map fun z => offV z n)) pk)
   have hli : ((zs0.take i).map fun z => offV z n).length = i := by rw [List.length_map, List.length_take, HZ0.out]; omega
   rw [hli] at H ⊢
   clear hli
   by_cases hlt : i < k
   ·obtain ⟨a, ha⟩ : ∃ a, zs0[i]? = some a := ⟨_, List.getElem?_eq_getElem (by rw [HZ0.out]; exact hlt)⟩
    obtain ⟨r1, hr1⟩ : ∃ r, offV a n = r := ⟨_, rfl⟩
    have HO1 : Hid (∀ w, Calls Tryz.prog 9 #[.int .i64 a, .int .i64 (n : Nat)] w fun e w' => e = .returned (.int .i64 r1) ∧ w' = w) := Lib.hid fun w => by have := offset_c a n (by omega) w; rwa [hr1] at this
    obtain ⟨g, of, c8, e1, _⟩ := HU.out.1.has (by rw [HZ0.out]; omega)
    injection e1 with e1 e2 e3
    subst e1
    clear e2 e3
    have HC : Hid (∀ w, (poolA P0).ho w → w.cell? ⟨g, of + i, none⟩ = some (.int .i64 a)) := Lib.hid fun w h => HU.out.1.cell h encZ_len ha rfl
    have HTK : Hid ((zs0.take (i + 1)).map (fun z => offV z n) = (zs0.take i).map (fun z => offV z n) ++ [r1]) := Lib.hid (by rw [List.take_add_one, ha, List.map_append, Option.toList_some, List.map_cons, List.map_nil, hr1])
    have HLN : Hid (((zs0.take i).map fun z => offV z n).length ≤ 10) := Lib.hid (by simp; omega)
    have d5 : decide ((i : Int) < (k : Int)) = true := by simp; omega
    clear ha hr1
    generalize hys : (zs0.take i).map (fun z => offV z n) = ys at *
    clear hys
    go_wp2_with (first | refine sL ?_ | (refine sS ?_; clear H; intros; rename_i H) | (go_at_call 9; (first | (with_reducible refine Calls.mono (HO1.out _) ?_)); rintro e9 wc ⟨rfl, rfl⟩) | ((with_reducible refine isSlice ?_); first | (refine AtSlice.zero encZ H rfl rfl rfl rfl encZ_len ?_; clear H; intro b9 _ H; simp only [Act.put, puA, puB, puC]) | (refine AtSlice.one H rfl rfl rfl rfl rfl rfl rfl rfl rfl ?_; clear H; intro b _ H; simp only [Act.put, puA, puB, puC])) | ((with_reducible refine isAppend ?_); refine AtAppend.go (enc := encZ) H rfl rfl rfl rfl rfl (by decide) (by decide) rfl pk rfl (H.at pk) [r1] rfl (by simp [flatG, encZ]) encZ_len encZ_one (by have := HLN.out; simp; omega) ?_; clear H; intro ad9 cp9 _ H; simp only [Act.put, puA, puB, puC]))
    go_roundg (k - (i + 1))
    case measure => omega
    case rel => exact ⟨i + 1, rfl, by omega, rfl, by rw [HTK.out]; exact H.picks (.cons (A := pA X) pk (.cons (A := rowsA encZ 3 1 _ (ys ++ [r1])) pk .nil))⟩
   ·obtain rfl : k = i := by omega
    have hys : (zs0.take k).map (fun z => offV z n) = zs0.map (fun z => offV z n) := by rw [List.take_of_length_le (by rw [HZ0.out]; exact Nat.le_refl _)]
    rw [hys, HU.out.2.2.1] at H
    clear hys hlt
    have d5 : decide ((k : Int) < (k : Int)) = false := by simp
    first
    |have hq : ¬ okZ n 0 zs := hok
     clear hq hok
     rcases Nat.eq_zero_or_pos k with hk0 | hkp
     case' inl =>
      rw [hk0] at H ⊢
      have HK0 := Lib.hid hk0
      clear hk0
      have hz : zs = [] := List.eq_nil_of_length_eq_zero (by rw [HU.out.2.2.2]; exact HK0.out)
      go_wp2_with (first | refine sL ?_ | (refine sS ?_; clear H; intros; rename_i H) | (go_at_call 19; with_reducible refine Calls.mono (HPT.out _ _ (H.get (A := rowsA encZ 3 1 (.slice ar 0 cr) zs) pk)) ?_; rintro e9 wc ⟨rfl, hb⟩; replace H := H.grew hb.below; clear hb) | ((with_reducible refine isSlice ?_); first | (refine AtSlice.zero encZ H rfl rfl rfl rfl encZ_len ?_; clear H; intro b9 _ H; simp only [Act.put, puA, puB, puC]) | (refine AtSlice.one H rfl rfl rfl rfl rfl rfl rfl rfl rfl ?_; clear H; intro b _ H; simp only [Act.put, puA, puB, puC])) | ((with_reducible refine isAppend ?_); refine AtAppend.none rfl rfl rfl rfl rfl rfl ?_; simp only [Act.put, puA, puB, puC]))
      rw [hz] at HCT
      go_at_call 20; with_reducible refine Calls.mono (HCT.out X id HX.out _ _ (H.sepK (A := pA X) (B := deA) HK pk pk) (H.sepO (A := pA X) (B := rowsA encZ 3 1 (.slice (some ⟨b9, 0, none⟩) 0 0) []) pk pk)) ?_
     case' inr =>
      go_wp2_with (first | refine sL ?_ | (refine sS ?_; clear H; intros; rename_i H) | (go_at_call 19; with_reducible refine Calls.mono (HPT.out _ _ (H.get (A := rowsA encZ 3 1 (.slice ar k cr) zs) pk)) ?_; rintro e9 wc ⟨rfl, hb⟩; replace H := H.grew hb.below; clear hb) | ((with_reducible refine isSlice ?_); first | (refine AtSlice.zero encZ H rfl rfl rfl rfl encZ_len ?_; clear H; intro b9 _ H; simp only [Act.put, puA, puB, puC]) | (refine AtSlice.one H rfl rfl rfl rfl rfl rfl rfl rfl rfl ?_; clear H; intro b _ H; simp only [Act.put, puA, puB, puC])) | ((with_reducible refine isAppend ?_); refine AtAppend.own H rfl rfl rfl rfl rfl (by decide) (by decide) rfl (xs := []) pk rfl (ys := zs) pk encZ_len encZ_one (by have := HU.out.2.2.2; have := HB.out.2.1; simp only [List.length_nil]; omega) (by have := HU.out.2.2.2; omega) ?_; clear H; intro ad9 cp9 _ H; simp only [Act.put, puA, puB, puC]))
      rw [show ([] : List Int).length + zs.length = k from by rw [HU.out.2.2.2]; exact Nat.zero_add _, List.nil_append] at H
      rw [HU.out.2.2.2]
      go_at_call 20; with_reducible refine Calls.mono (HCT.out X id HX.out _ _ (H.sepK (A := pA X) (B := deA) HK pk pk) (H.sepO (A := pA X) (B := rowsA encZ 3 1 (.slice ad9 k cp9) zs) pk pk)) ?_
     all_goals
      rintro e9 wc ⟨X3, y1, y2, y3, rfl, hb⟩
      replace H := (H.pick (A := pA X) pk).call hb
      clear hb
      simp only [List.cons_append, List.nil_append] at H
      go_wp2_with (first | refine sL ?_ | (refine sS ?_; clear H; intros; rename_i H) | (go_at_call 12; with_reducible refine same (HEI.out _) ?_))
      go_ret
      exact ⟨rfl, H.nix⟩
    |have hq : okZ n 0 (natZ ns) := hok
     clear hq hok
     rcases Nat.eq_zero_or_pos k with hk0 | hkp
     case' inl =>
      rw [hk0] at H ⊢
      have HK0 := Lib.hid hk0
      clear hk0
      have hz : (natZ ns) = [] := List.eq_nil_of_length_eq_zero (by rw [HU.out.2.2.2]; exact HK0.out)
      go_wp2_with (first | refine sL ?_ | (refine sS ?_; clear H; intros; rename_i H) | (go_at_call 19; with_reducible refine Calls.mono (HPT.out _ _ (H.get (A := rowsA encZ 3 1 (.slice ar 0 cr) (natZ ns)) pk)) ?_; rintro e9 wc ⟨pv, vs, rfl, y1, hb⟩; have HVS := Lib.hid y1; clear y1; replace H := H.call0 hb; clear hb; simp only [List.cons_append, List.nil_append] at H) | ((with_reducible refine isSlice ?_); first | (refine AtSlice.zero encZ H rfl rfl rfl rfl encZ_len ?_; clear H; intro b9 _ H; simp only [Act.put, puA, puB, puC]) | (refine AtSlice.one H rfl rfl rfl rfl rfl rfl rfl rfl rfl ?_; clear H; intro b _ H; simp only [Act.put, puA, puB, puC])) | ((with_reducible refine isAppend ?_); refine AtAppend.none rfl rfl rfl rfl rfl rfl ?_; simp only [Act.put, puA, puB, puC]))
      rw [hz] at HCT
      go_at_call 20; with_reducible refine Calls.mono (HCT.out X id HX.out _ _ (H.sepK (A := pA X) (B := deA) HK pk pk) (H.sepO (A := pA X) (B := rowsA encZ 3 1 (.slice (some ⟨b9, 0, none⟩) 0 0) []) pk pk)) ?_
     case' inr =>
      go_wp2_with (first | refine sL ?_ | (refine sS ?_; clear H; intros; rename_i H) | (go_at_call 19; with_reducible refine Calls.mono (HPT.out _ _ (H.get (A := rowsA encZ 3 1 (.slice ar k cr) (natZ ns)) pk)) ?_; rintro e9 wc ⟨pv, vs, rfl, y1, hb⟩; have HVS := Lib.hid y1; clear y1; replace H := H.call0 hb; clear hb; simp only [List.cons_append, List.nil_append] at H) | ((with_reducible refine isSlice ?_); first | (refine AtSlice.zero encZ H rfl rfl rfl rfl encZ_len ?_; clear H; intro b9 _ H; simp only [Act.put, puA, puB, puC]) | (refine AtSlice.one H rfl rfl rfl rfl rfl rfl rfl rfl rfl ?_; clear H; intro b _ H; simp only [Act.put, puA, puB, puC])) | ((with_reducible refine isAppend ?_); refine AtAppend.own H rfl rfl rfl rfl rfl (by decide) (by decide) rfl (xs := []) pk rfl (ys := (natZ ns)) pk encZ_len encZ_one (by have := HU.out.2.2.2; have := HB.out.2.1; simp only [List.length_nil]; omega) (by have := HU.out.2.2.2; omega) ?_; clear H; intro ad9 cp9 _ H; simp only [Act.put, puA, puB, puC]))
      rw [show ([] : List Int).length + (natZ ns).length = k from by rw [HU.out.2.2.2]; exact Nat.zero_add _, List.nil_append] at H
      rw [HU.out.2.2.2]
      go_at_call 20; with_reducible refine Calls.mono (HCT.out X id HX.out _ _ (H.sepK (A := pA X) (B := deA) HK pk pk) (H.sepO (A := pA X) (B := rowsA encZ 3 1 (.slice ad9 k cp9) (natZ ns)) pk pk)) ?_
     all_goals
      rintro e9 wc ⟨X3, iv, ids, rfl, y1, y2, y3, y4, hb⟩
      have HC3 := Lib.hid (And.intro y1 (And.intro y2 (And.intro y3 y4)))
      clear y1 y2 y3 y4
      replace H := (H.pick (A := pA X) pk).call hb
      clear hb
      simp only [List.cons_append, List.nil_append] at H
      obtain ⟨gi, ci, rfl, _⟩ := rowsA_cases (H.get (A := rowsA encI 24 1 iv ids) pk) (by rw [HC3.out.2.2.1.1]; omega)
      obtain ⟨gv, cv, rfl, _⟩ := rowsA_cases (H.get (A := rowsA encS 22 1 pv vs) pk) (by rw [HVS.out.1]; omega)
      rw [HC3.out.2.2.1.1, HVS.out.1] at H ⊢
      go_wp2_with (first | refine sL ?_ | (refine sS ?_; clear H; intros; rename_i H))
      go_loopg [14] (k + 1) (fun mm v1 wr => CutsR2 X3 w k (.slice (some ⟨gi, 0, none⟩) (k + 1) ci) (.slice (some ⟨gv, 0, none⟩) (k + 1) cv) ids vs mm v1 wr)
      case atStart => exact ⟨0, X3, rfl, Nat.zero_le _, rfl, ⟨.refl _, HC3.out.2.1, by omega⟩, H.picks (.cons (A := pA X3) pk (.cons (A := rowsA encI 24 1 (.slice (some ⟨gi, 0, none⟩) (k + 1) ci) ids) pk (.cons (A := rowsA encS 22 1 (.slice (some ⟨gv, 0, none⟩) (k + 1) cv) vs) pk .nil)))⟩
      case round =>
       clear H
       obtain ⟨i, X2, rfl, hik, rfl, hrel, H⟩ := hrel
       have HREL := Lib.hid hrel
       by_cases hlt : i < k + 1
       ·obtain ⟨id, hid, hidis⟩ := HC3.out.2.2.1.2 i hlt
        have hvi := HVS.out.2 i hlt
        obtain ⟨ap, hap⟩ : ∃ x, cutA ad c (cutFr ns i) = x := ⟨_, rfl⟩
        obtain ⟨m, hm⟩ : ∃ x, cutTo n ns i - cutFr ns i = x := ⟨_, rfl⟩
        obtain ⟨cr, hcr⟩ : ∃ x, c - cutFr ns i = x := ⟨_, rfl⟩
        have hvi2 : vs[i]? = some (ap, m, cr) := by rw [hvi, ← hap, ← hm, ← hcr]; rfl
        have HID : Hid (∀ w, (rowsA encI 24 1 (.slice (some ⟨gi, 0, none⟩) (k + 1) ci) ids).ho w → w.cell? ⟨gi, i, none⟩ = some (.int .i64 (id : Nat))) := Lib.hid fun w h => rowsA_cell1 h encI_len hid rfl
        have HVI : Hid (∀ w, (rowsA encS 22 1 (.slice (some ⟨gv, 0, none⟩) (k + 1) cv) vs).ho w → w.cell? ⟨gv, i, none⟩ = some (.slice ap m cr)) := Lib.hid fun w h => rowsA_cell1 h encS_len hvi2 rfl
        have HISC : Hid (∀ w, ((pA X2).sep deA).ho w → ((pA X2).sep (poolA P1)).ho w → Calls Tryz.prog 13 #[.pointer (some ⟨X.p, 0, none⟩), .int .i64 id, .slice ap m cr] w fun e w' => ∃ X' : Px, e = .returned (.bool true) ∧ X2.Ext X' ∧ PxOk X' ∧ X'.S.list.length ≤ X2.S.list.length + 1000 ∧ St w (pA X2).fp [pA X'] w') := Lib.hid fun w h1 h2 => by
         have hri := HRI.out i (by omega)
         rw [hap, hm, hcr] at hri
         have hpl : (cutPart text n ns i).length ≤ 500 := by unfold cutPart; simp; have := HB.out.1; omega
         have := is_c hrel.2.1 hri (fun x hx => HB.out.2.2 x (by unfold cutPart at hx; exact List.mem_of_mem_drop (List.mem_of_mem_take hx))) (by omega) (by
          have h1 := hrel.2.2
          have h2 : i * 1000 ≤ 11000 := by have := HB.out.2.1; omega
          have h3 := HC3.out.2.2.2
          have h4 : X2.S.most = 1048576 := by rw [hrel.1.le.1, HC3.out.1.le.1]; exact HX.out.2.1
          omega) (by
          rw [cutPart_map] at hidis
          exact hidis.le HC3.out.2.1.ok hrel.1.le) w h1 h2
         rw [hrel.1.p, HC3.out.1.p] at this
         refine this.mono ?_
         rintro e w' ⟨X', rfl, z1, z2, z3, z4⟩
         exact ⟨X', rfl, z1, z2, by omega, z4⟩
        have d5 : decide ((i : Int) < ((k + 1 : Nat) : Int)) = true := by simp; omega
        have d5n : decide (i < k + 1) = true := by simp; omega
        clear hid hidis hvi hap hm hcr hvi2 hrel
        go_wp2_with (first | refine sL ?_ | (refine sS ?_; clear H; intros; rename_i H))
        replace H : St w [] [pA X2, rowsA encI 24 1 (.slice (some ⟨gi, 0, none⟩) (k + 1) ci) ids, rowsA encS 22 1 (.slice (some ⟨gv, 0, none⟩) (k + 1) cv) vs] _ := H.picks (.cons (A := pA X2) pk (.cons (A := rowsA encI 24 1 (.slice (some ⟨gi, 0, none⟩) (k + 1) ci) ids) pk (.cons (A := rowsA encS 22 1 (.slice (some ⟨gv, 0, none⟩) (k + 1) cv) vs) pk .nil)))
        refine wp_region_sgx 11 [⟨[], fun v _ => v = .pointer (some ⟨X.p, 0, none⟩)⟩, ⟨[], fun v _ => v = .slice (some ⟨gi, 0, none⟩) (k + 1) ci⟩, ⟨[], fun v _ => v = .int .i64 i⟩, ⟨[1, 2], fun v _ => v = .pointer (some ⟨gi, i, none⟩)⟩, ⟨[3], fun v _ => v = .int .i64 (id : Nat)⟩, ⟨[], fun v _ => v = .slice (some ⟨gv, 0, none⟩) (k + 1) cv⟩, ⟨[], fun v _ => v = .int .i64 i⟩, ⟨[5, 6], fun v _ => v = .pointer (some ⟨gv, i, none⟩)⟩, ⟨[7], fun v _ => v = (.slice ap m cr)⟩, ⟨[0, 4, 8], fun v _ => v = .bool true⟩, ⟨[9], fun v _ => v = .bool false⟩] [9] [[0], [0], [0], [0], [0], [0], [0], [0], [0], [0], [1]] [fun _ wx => St w [] [pA X2, rowsA encI 24 1 (.slice (some ⟨gi, 0, none⟩) (k + 1) ci) ids, rowsA encS 22 1 (.slice (some ⟨gv, 0, none⟩) (k + 1) cv) vs] wx, fun _ wx => ∃ X3 : Px, (X2.Ext X3 ∧ PxOk X3 ∧ X3.S.list.length ≤ X2.S.list.length + 1000) ∧ St w [] [pA X3, rowsA encI 24 1 (.slice (some ⟨gi, 0, none⟩) (k + 1) ci) ids, rowsA encS 22 1 (.slice (some ⟨gv, 0, none⟩) (k + 1) cv) vs] wx]
         [[], [], [], [(1, 87), (2, 88)], [(3, 89)], [], [], [(5, 91), (6, 92)], [(7, 93)], [(0, 86), (4, 90), (8, 94)], [(9, 95)]] [(0, 86), (1, 87), (2, 88), (3, 89), (4, 90), (5, 91), (6, 92), (7, 93), (8, 94), (9, 95), (10, 96)] (by kernel_rfl) (by kernel_rfl) H.drew ⟨⟨qo, trivial⟩, ⟨qo, trivial⟩, ⟨qo, trivial⟩, ⟨qo, trivial⟩, ⟨ql, trivial⟩, ⟨qo, trivial⟩, ⟨qo, trivial⟩, ⟨qo, trivial⟩, ⟨ql, trivial⟩, ⟨?_, trivial⟩, ⟨qo, trivial⟩, trivial⟩ ?_
        ·intro vals wx hd HC
         simp only [GF] at hd
         have H := HC
         simp only [CA] at H
         simp only [PS, hd]
         clear HC hd
         go_simp
         with_reducible refine Calls.mono (HISC.out _ (H.sepK (A := pA X2) (B := deA) HK pk pk) (H.sepK (A := pA X2) (B := poolA P1) HK pk pk)) ?_
         rintro e wc ⟨X3, rfl, y1, y2, y3, hb⟩
         have H2 := (H.pick (A := pA X2) pk).call hb
         simp only [List.cons_append, List.nil_append] at H2
         exact ⟨_, rfl, rfl, X3, ⟨y1, y2, y3⟩, H2.picks (.cons (A := pA X3) pk (.cons (A := rowsA encI 24 1 (.slice (some ⟨gi, 0, none⟩) (k + 1) ci) ids) pk (.cons (A := rowsA encS 22 1 (.slice (some ⟨gv, 0, none⟩) (k + 1) cv) vs) pk .nil)))⟩
        intro vals wx hd HC
        simp only [CA] at HC
        obtain ⟨X3, hx3, H⟩ := HC
        simp only [GF] at hd
        simp only [PS, hd]
        clear hd
        have HX3 := Lib.hid hx3
        clear hx3
        go_wp2_with (first | refine sL ?_ | (refine sS ?_; clear H; intros; rename_i H))
        go_roundg (k + 1 - (i + 1))
        case measure => omega
        case rel => exact ⟨i + 1, X3, rfl, by omega, rfl, ⟨HREL.out.1.trans HX3.out.1, HX3.out.2.1, by have h1 := HREL.out.2.2; have h2 := HX3.out.2.2; rw [Nat.add_mul, Nat.one_mul]; omega⟩, H.picks (.cons (A := pA X3) pk (.cons (A := rowsA encI 24 1 (.slice (some ⟨gi, 0, none⟩) (k + 1) ci) ids) pk (.cons (A := rowsA encS 22 1 (.slice (some ⟨gv, 0, none⟩) (k + 1) cv) vs) pk .nil)))⟩
       ·have d5 : decide ((i : Int) < ((k + 1 : Nat) : Int)) = false := by simp; omega
        have d5n : decide (i < k + 1) = false := by simp; omega
        clear hrel
        go_wp2_with (first | refine sL ?_ | (refine sS ?_; clear H; intros; rename_i H))
        go_ret
        exact ⟨rfl, H.nix⟩
end
section
open Go.ChangeShapes Go.WideShapes Go.ChangeAt Go.RowKit Go.Deep
theorem ownK : ownKnob Tryz.prog.godebug = none := by kernel_rfl
theorem u8_wf {x : Int} (h : (Lit.int .u8 x).wf = true) : ∃ n : Nat, x = (n : Int) ∧ n < 256 := by
 simp [Lit.wf, IntKind.min, IntKind.max, IntKind.signed, IntKind.bits] at h
 exact ⟨x.toNat, by omega, by omega⟩
section
variable {H : Type} {enc : TypeId × Value → H} {w : World} {base : Nat} {spare : Nat → Bool} {held : Bool}
theorem open_row {α : Type} [Inhabited α] {ec : α → List Value} {k : Nat} (hk : ∀ x, (ec x).length = k) (hk0 : 0 < k) {t e : TypeId} (ht : Tryz.prog.underlying t = some (.slice e)) (hc : Tryz.prog.cellsOf e = k) (Ok : α → Prop)
  (el : ∀ n cs y, cs.length = k → DataW.trod enc Tryz.prog w base spare held n e cs = some y → ∃ x, cs = ec x ∧ Ok x) {fuel : Nat} {cs : List Value} {x : DataW H × List MemPlace} (h : DataW.trod enc Tryz.prog w base spare held fuel t cs = some x) :
  ∃ (v : Value) (xs : List α) (P : PoolT), cs = [v] ∧ RowIn P ec k v xs ∧ (poolA P).ho w ∧ (∀ x ∈ xs, Ok x) ∧ ∃ ad c, v = .slice ad xs.length c ∧ xs.length ≤ c := by
 rcases open_slice ht h with ⟨hcs, _⟩ | ⟨a, len, cap, m, n, D, Pl, hcs, _, hl, hm, hmm, _, hx⟩
 ·exact ⟨_, [], [], hcs, RowIn.nil 0, poolA_nil w, by simp, _, _, rfl, Nat.le_refl _⟩
 ·have hml : len ≤ m := by rw [hmm]; split <;> omega
  rw [hc] at hx
  by_cases h0 : len = 0
  ·subst h0
   exact ⟨_, [], [], hcs, ⟨some a, cap, rfl, by simp, fun h => by simp at h⟩, poolA_nil w, by simp, _, _, rfl, Nat.zero_le _⟩
  obtain ⟨b, o, spot⟩ := a
  have key : ∀ i, i < len → ∃ x : α, w.cells? base ((⟨b, o, spot⟩ : Addr).add (i * k)) k = some (ec x) ∧ Ok x := fun i hi => by
   obtain ⟨cs', h1, h2⟩ := hx i (by omega)
   obtain ⟨x, rfl, hok⟩ := el _ _ _ (World.cells?_some h1).2.1 h2
   exact ⟨x, h1, hok⟩
  obtain ⟨f, hf2⟩ := choose_lt (α := α) key
  have hcell : ∀ i, i < len → ∀ j u, (ec (f i))[j]? = some u → w.cell? (((⟨b, o, spot⟩ : Addr).add (i * k)).add j) = some u := fun i hi j u hj => by
   have hj4 : j < k := by have := (List.getElem?_eq_some_iff.1 hj).1; rwa [hk] at this
   have := (World.cells?_some (hf2 i hi).1).2.2 j hj4
   rw [this, hj]
  have hl4 : 0 < (ec (f 0)).length := by rw [hk]; omega
  have hspot : spot = none := by
   have := World.cell?_spot (hcell 0 (by omega) 0 _ (List.getElem?_eq_getElem hl4))
   simpa [Addr.add] using this
  subst hspot
  have hadd : ∀ i j, ((⟨b, o, none⟩ : Addr).add (i * k)).add j = ⟨b, o + (i * k + j), none⟩ := fun i j => by rw [Addr.add_mid, Addr.add_mid]; congr 1; omega
  have hblk : b < w.heap.size := by
   have := block_lt_of_cell (hcell 0 (by omega) 0 _ (List.getElem?_eq_getElem hl4))
   rw [hadd] at this
   exact this
  unfold maxLen at hm
  have hlen : ((List.range len).map f).length = len := by simp
  refine ⟨_, (List.range len).map f, [(b, o, flatG ec ((List.range len).map f))], hcs, ⟨some ⟨b, o, none⟩, cap, by rw [hlen], by rw [hlen]; unfold maxLen; omega, fun _ => ⟨b, o, rfl, by simp⟩⟩, ?_, ?_, _, cap, by rw [hlen], by rw [hlen]; exact hl⟩
  ·rw [poolA_ho]
   intro y hy
   simp only [List.mem_singleton] at hy
   subst hy
   refine ⟨hblk, fun jj u hj => ?_⟩
   have hjl := getElem_len hj
   rw [flatG_len ec k hk, hlen] at hjl
   have hi : jj / k < len := by rw [Nat.div_lt_iff_lt_mul hk0]; exact hjl
   have hjk : jj % k < k := Nat.mod_lt _ hk0
   have hget : ((List.range len).map f)[jj / k]? = some (f (jj / k)) := by rw [List.getElem?_map, List.getElem?_range hi]; rfl
   have hfl := flatG_get ec k hk _ (jj / k) _ hget (jj % k) hjk
   have hdm : jj / k * k + jj % k = jj := by have := Nat.div_add_mod jj k; rw [Nat.mul_comm] at this; exact this
   rw [hdm, hj] at hfl
   have := hcell (jj / k) hi (jj % k) u hfl.symm
   rw [hadd, hdm] at this
   exact this
  ·intro y hy
   obtain ⟨i, hi, rfl⟩ := List.mem_map.1 hy
   exact (hf2 i (List.mem_range.1 hi)).2
theorem arg_text {r : Reach} {b0 : Nat} {v : Value} {d : DataW H} {p : List MemPlace} (hv : Value.okWide Tryz.prog w r b0 22 v) (h : DataW.Trod enc Tryz.prog w base spare held 22 v d p) :
  ∃ (xs : List Nat) (P : PoolT), TxtIn P v xs ∧ (∀ x ∈ xs, x < 256) ∧ (poolA P).ho w := by
 obtain ⟨a, n, c, rfl⟩ := okWide_slice Tryz.underlying22 hv
 obtain ⟨fuel, hf⟩ := h
 have c5 : Tryz.prog.cellsOf 5 = 1 := by kernel_rfl
 obtain ⟨v2, xs, P, e, h1, h2, h3, ad, c2, h4, h5⟩ := open_row (ec := encT) encT_len (by omega) Tryz.underlying22 c5 (fun x => x < 256) (fun n cs y hl hy => by
  obtain ⟨z, rfl, _, hz⟩ := DataW.trod_int Tryz.underlying5 hy
  obtain ⟨x, rfl, hx⟩ := u8_wf hz
  exact ⟨x, rfl, hx⟩) hf
 simp only [Value.cells, List.cons.injEq, and_true] at e
 first | subst e | (have e := (List.cons.inj e).1; subst e)
 exact ⟨xs, P, ⟨ad, c2, h4, h5, h1⟩, h3, h2⟩
end
theorem gTab : Tryz.prog.globalNamed "math/bits.deBruijn64tab" = some 0 := by kernel_rfl
theorem tTab : (Tryz.prog.globals[0]?).map (·.type) = some 187 := by kernel_rfl
theorem tab_is {H : Type} : (Rows.laid_math_bits_deBruijn64tab : DataW H) = .agg (Lib.deBruijn64tab.map fun (n : Nat) => .lit (.int .u8 n)) := rfl
theorem tab_of {W : World} (h : laidMetH Tryz.prog [("math/bits.deBruijn64tab", Rows.laid_math_bits_deBruijn64tab)] W) : deA.ho W := by
  rw [deA_ho]
  rw [MakeChecks.laidMetH_plain _ _ _ (by kernel_rfl)] at h
  obtain ⟨ps, ⟨g0, t0, cs0, f0, p0, q0, hg0, ht0, hv0, hd0, _, _⟩, _, _⟩ := h
  obtain rfl := Option.some.inj (gTab.symm.trans hg0)
  obtain rfl := Option.some.inj (tTab.symm.trans ht0)
  obtain ⟨xs, m1, hfu, hx1, hlen, hn3, hel⟩ := DataW.trod_array Tryz.underlying187 hd0
  have c5 : Tryz.prog.cellsOf 5 = 1 := by kernel_rfl
  have key : ∀ j, j < 64 → W.cell? ⟨0, j, none⟩ = some (.int .u8 (Lib.deBruijn64tab.getD j 0 : Nat)) := fun j hj => by
    have h0 := hel j hj
    rw [c5] at h0
    obtain ⟨y, hy⟩ : ∃ y, xs[j]? = some y := ⟨xs[j]'(by omega), List.getElem?_eq_getElem _⟩
    rw [hy] at h0
    obtain ⟨k, e1, e2, _⟩ := DataW.trod_int Tryz.underlying5 h0
    rw [tab_is] at hx1
    simp only [Prod.mk.injEq, DataW.agg.injEq] at hx1
    have e3 := congrArg (fun l : List (DataW Unit) => l[j]?) hx1.1
    simp only [List.getElem?_map, hy, Option.map_some] at e3
    have hl : j < Lib.deBruijn64tab.length := by have : Lib.deBruijn64tab.length = 64 := by decide
                                                 omega
    rw [List.getElem?_eq_getElem hl, Option.map_some] at e3
    have hk : k = (Lib.deBruijn64tab[j] : Nat) := by
      have := Option.some.inj e3
      rw [e2] at this
      simp at this
      exact this.symm
    have hcl := World.var?_cell hg0 hv0 j
    have e4 : cs0.toList[j]? = some (.int .u8 k) := by
      have := congrArg List.head? e1
      rw [Nat.mul_one, List.head?_take, if_neg (by omega), List.head?_drop] at this
      simpa using this
    rw [hcl, ← Array.getElem?_toList, e4, hk]
    simp [List.getD, hl]
  have h64 : Lib.deBruijn64tab.length = 64 := by decide
  exact ⟨fun j hj => key j (by omega), by have := block_lt_of_cell (key 0 (by omega)); exact this⟩
theorem door_met (os : Os) (args : Array Value) : laidMetH Tryz.prog [("math/bits.deBruijn64tab", Rows.laid_math_bits_deBruijn64tab)] ((World.doorLaid Tryz.prog 400 os).forCall (fun _ _ => 0) ⟨#[], args, []⟩).memory :=
 laidMetH_of_parts3 (fuel := 80) (laidMet_of_run' 80 (by kernel_rfl) (by kernel_rfl)) (by kernel_rfl) (by kernel_rfl)
end
end Go.Proofs.YtnnbeldbccejpaaGreatDoor
section
namespace Go.Proofs.YtnnbeldbccejpaaGreatDoor
open Go.ChangeShapes Go.WideShapes Go.ChangeAt Go.RowKit Go.Deep
set_option linter.unusedVariables false
set_option linter.unusedSimpArgs false
set_option maxRecDepth 100000
theorem arg_ints {H : Type} {enc : TypeId × Value → H} {w : World} {base : Nat} {spare : Nat → Bool} {held : Bool} {r : Reach} {b0 : Nat} {v : Value} {d : DataW H} {p : List MemPlace} (hv : Value.okWide Tryz.prog w r b0 42 v) (h : DataW.Trod enc Tryz.prog w base spare held 42 v d p) :
  ∃ (xs : List Int) (P : PoolT), RowIn P encZ 1 v xs ∧ (poolA P).ho w := by
 obtain ⟨a, n, c, rfl⟩ := okWide_slice Tryz.underlying42 hv
 obtain ⟨fuel, hf⟩ := h
 have c5 : Tryz.prog.cellsOf 3 = 1 := by kernel_rfl
 obtain ⟨v2, xs, P, e, h1, h2, h3, ad, c2, h4, h5⟩ := open_row (ec := encZ) encZ_len (by omega) Tryz.underlying42 c5 (fun _ => True) (fun n cs y hl hy => by
  obtain ⟨z, rfl, _, hz⟩ := DataW.trod_int Tryz.underlying3 hy
  exact ⟨z, rfl, trivial⟩) hf
 simp only [Value.cells, List.cons.injEq, and_true] at e
 first | subst e | (have e := (List.cons.inj e).1; subst e)
 exact ⟨xs, P, h1, h2⟩
end Go.Proofs.YtnnbeldbccejpaaGreatDoor
namespace Go.Proofs.YtnnbeldbccejpaaGreatDoor.lawExcerptCuts
open Go.ChangeShapes Go.WideShapes Go.ChangeAt Go.RowKit
open Go.Proofs.YtnnbeldbccejpaaGreatDoor
set_option linter.unusedVariables false
set_option maxRecDepth 100000 in
theorem lifted (os : Os) (started : os.Started) (H : Type) (enc : TypeId × Value → H) :
  ReturnsInHanded {} Tryz.checked os 6 .any (fun w args => (Rows.excerptCutsSpec.pre enc Tryz.prog Tryz.f6 [] false w args ∧ laidMetH Tryz.prog [("math/bits.deBruijn64tab", Rows.laid_math_bits_deBruijn64tab)] w) ∧ sizedMet enc Tryz.prog Tryz.f6 (OpenSpec.ofChange Rows.excerptCutsSpec) false w args)
   (Rows.excerptCutsSpec.post enc Tryz.prog Tryz.f6 false true false false) := by
 refine returnsInHanded_of_change_and (C := Tryz.checked) (X := fun w _ => laidMetH Tryz.prog [("math/bits.deBruijn64tab", Rows.laid_math_bits_deBruijn64tab)] w) (fun _ _ _ hh h => h.of_heap hh) ownK started (by kernel_rfl) Tryz.func6
  (ChangeSpec.witness_shaped (enc := enc) (C := Tryz.checked) (os := os) (X := fun w _ => laidMetH Tryz.prog [("math/bits.deBruijn64tab", Rows.laid_math_bits_deBruijn64tab)] w) false (World.doorLaid Tryz.prog 400 os) #[.slice none 0 0, .slice none 0 0] 8 rfl (World.shaped_of_RefB (by kernel_rfl) (by kernel_rfl)) (by kernel_rfl) (by kernel_rfl) (by kernel_rfl) (door_met os _)) ?_
 intro W base args ds gs before hval0 hW _ _ hL _
 have hval : ∀ (j : Nat) t v, Tryz.f6.params[j]? = some t → args[j]? = some v → Value.okWide Tryz.prog W .any base t v := hval0
 have hW' := hW
 obtain ⟨p, q, hA0, hV, rfl, hfz, hnd⟩ := hW
 have hA : DataW.TrodAll enc Tryz.prog W 0 (fun _ => true) true Tryz.f6.params.toList args.toList ds p := hA0
 rw [Tryz.params6] at hA hval
 obtain ⟨v0, vs0, d0, ds0, p0, q0, hargs, rfl, rfl, h0, r0⟩ := trodAll_cons hA
 obtain ⟨v1, vs1, d1, ds1, p1, q1, rfl, rfl, rfl, h1, r1⟩ := trodAll_cons r0
 obtain ⟨rfl, rfl, rfl⟩ := trodAll_nil r1
 obtain rfl : args = #[v0, v1] := by cases args; simp_all
 obtain ⟨rfl, rfl⟩ := trodVars_none hV
 have k0 := h0
 have lt0 : ∀ x ∈ p0, x.block < W.heap.size := by obtain ⟨m, hm⟩ := k0; exact DataW.trod_lt m _ _ _ hm
 have k1 := h1
 have lt1 : ∀ x ∈ p1, x.block < W.heap.size := by obtain ⟨m, hm⟩ := k1; exact DataW.trod_lt m _ _ _ hm
 obtain ⟨x0, P0, t0, b0, w0⟩ := arg_text (hval 0 22 v0 rfl rfl) h0
 obtain ⟨x1, P1, t1, w1⟩ := arg_ints (hval 1 42 v1 rfl rfl) h1
 have hde := tab_of hL
 clear hA0 hval0
 refine (cuts_c (t0.mono fun x hx => List.mem_append.2 (.inl hx)) (t1.mono fun x hx => List.mem_append.2 (.inr hx)) b0 W hde (poolA_append w0 w1)).mono fun e W' ⟨he, bel⟩ => ?_
 subst he
 exact ⟨_, rfl, _, _, _, [], _, [], hW', trodAll_mk1 (shut_bool Tryz.underlying4 _), (trodAll_cons_mk (Below.trod laidOut_ok (by kernel_rfl) (of_decide_eq_true (by kernel_rfl)) k0 bel.below lt0) (trodAll_cons_mk (Below.trod laidOut_ok (by kernel_rfl) (of_decide_eq_true (by kernel_rfl)) k1 bel.below lt1) trodAll_mk0)), rfl, bel.below.frame _, fun h => by cases h⟩
theorem over : Rows.excerptCutsRow.holds Tryz.pinned (OpenSpec.ofChange Rows.excerptCutsSpec) :=
 OpenClaim.holds_of_wide 6 Tryz.f6 rfl rfl rfl rfl rfl rfl rfl ⟨rfl, rfl, rfl, rfl, rfl⟩ rfl rfl rfl rfl rfl (by kernel_rfl) Tryz.func6 (by kernel_rfl)
  (of_decide_eq_true (by kernel_rfl)) (by unfold Func.isWrapper; first | (rw [if_pos (by decide +kernel)]; kernel_rfl) | (rw [if_neg (by decide +kernel)]; exact ⟨rfl, rfl⟩))
  (fun os started H enc _ => lifted os started H enc)
theorem proved : Rows.ExcerptCutsCardSaid :=
 Claim7.holds_tied_plain_at .later [] [.data] true (true, "8dc37b1e0219d412a8dd9a2919d06126e03b70f6032098edfd9f6ea9ebf7f350") true
  over (fun _ h => by cases h) (by kernel_rfl) (fun _ h => by cases h) excerptCuts_row_tie rfl ⟨rfl, rfl⟩ (by kernel_rfl) rfl
  (fun f fn hf hfn => by
   obtain rfl : f = 6 := Option.some.inj ((show Tryz.prog.funcNamed "evergreen/evergreenlaw24.ExcerptCuts" = some 6 by kernel_rfl).symm.trans hf) |>.symm
   obtain rfl : fn = Tryz.f6 := (Option.some.inj (Tryz.func6.symm.trans hfn)).symm
   exact ⟨by kernel_rfl, fun j t ht => by
    rw [Tryz.params6] at ht
    have hm : t ∈ [22, 42] := by simpa using Array.mem_of_getElem? ht
    have hall : ([22, 42].all fun u => !Tryz.prog.wantsStandIn u) = true := by kernel_rfl
    exact (show Tryz.prog.wantsStandIn t = false by simpa using List.all_eq_true.1 hall t hm)⟩)
  (by kernel_rfl)
#print axioms proved
end Go.Proofs.YtnnbeldbccejpaaGreatDoor.lawExcerptCuts
end
namespace Go.Proofs.YtnnbeldbccejpaaGreatDoor
end Go.Proofs.YtnnbeldbccejpaaGreatDoor
