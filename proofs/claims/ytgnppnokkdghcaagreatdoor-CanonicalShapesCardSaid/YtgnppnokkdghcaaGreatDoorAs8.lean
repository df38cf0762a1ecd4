/-
  Part 8 of the texts behind the statements of this seat: walks and laws Dd, Fb, De, Df, Dg, Fc, Fd, Fe, Ff, Gm, Gp, Gq, Gr, Gs, Dh, Gt, Dl. Conditions: as each states.
-/
import Derived.Test.YtgnppnokkdghcaaGreatDoorAs7
import Derived.ChangeOld
import Derived.Deep.Slices
import Derived.LaidEqlPtr
import Derived.LaidMore
import Derived.Laws.Concat
import Derived.Laws.IdiomStrings
import Derived.Laws.Rows
import Derived.Lib.BufferRead
import Derived.OpenShut
import Derived.ProofKit
import Derived.SevenTiedAt
import Derived.ShutString
import Derived.Stop.Joined
import Derived.Test.YtgnppnokkdghcaaGreatDoorCards
import Derived.Test.YtgnppnokkdghcaaGreatDoorTie
set_option linter.unusedSimpArgs false
set_option linter.unusedVariables false
set_option maxRecDepth 100000
set_option maxHeartbeats 80000000
namespace Go.Proofs.YtgnppnokkdghcaaGreatDoor
section
open Go.RowKit Go.Maps
attribute [local go_sem] InGr
theorem run_append_in {α:Type} {enc:α→List Value} {t e ty:TypeId} (hte:sliceO t=some e) {z:Value} {k bytes:Nat} (hi:infoO e=some (z,k,bytes)) (hz:z.cells.size=k) (hk0:0<k) (hb0:0<bytes) {v:Value} {xs:List α} {w:World} (hrow:(rowsA enc e k v xs).ho w) {P:PoolT} {u:Value} {ys:List α} (hu:RowIn P enc k u ys) (hp:(poolA P).ho w) (hk:∀ x,(enc x).length=k) (h1:∀ x,∀ u∈enc x,u.oneCell'=true) (hb:(xs.length+ys.length)*bytes≤140737488355328) (hy:0<ys.length) :
  ∃ v' w',(Builtin.append_ #[t,t] ty #[v,u]).run Tryz.prog w=.ok v' w'∧St w (rowsA enc e k v xs).fp [rowsA enc e k v' (xs++ys)] w':=by
 obtain ⟨i,h2,h3,h4,h5⟩:=infoO_ok hi
 unfold rowsA at hrow ⊢
 obtain ⟨ad,c,rfl,hmax,hpm⟩:=hu
 obtain ⟨g,o,rfl,hm⟩:=hpm hy
 have hr:=pool_rng hp hm
 obtain ⟨v',w',r1,r2⟩:=run_append_st (P:=Tryz.prog) t ty e i z k bytes (sliceO_ok hte) h2 h3 h4 h5 hz hk0 v xs.length (flatG enc xs) hrow ⟨g,o,none⟩ ys.length c (flatG enc ys) (flatG_len enc k hk ys) (fun j q hj=>by rw [Addr.add_mid];exact hr j q hj) (flatG_one h1 ys) hb hb0
 refine ⟨v',w',r1,?_⟩
 rw [List.length_append,show flatG enc (xs++ys)=flatG enc xs++flatG enc ys by simp [flatG]]
 exact r2
section
variable {ops:Array Oper} {Q:Exit→Act→World→Prop} {rest:List Oper} {a:Act} {w w0:World} {M:List Nat} {L R:List As} {o1:Oper}
theorem AtSlice.zero {α:Type} (enc:α→List Value) {t e:TypeId} (H:St w0 M L w) (hw:Region.wanted o1 (yielded ops a.tmps)=true) (ho:o1.op=.buildSlice t 0 #[]) (hte:sliceO t=some e) {z:Value} {k bytes:Nat} (hi:infoO e=some (z,k,bytes)) (hk:∀ x,(enc x).length=k)
  (h:∀ b w',St w0 M (rowsA enc e k (.slice (some ⟨b,0,none⟩) 0 0) []::L) w'→wpList Tryz.prog ops Q rest (a.put o1.dst (.slice (some ⟨b,0,none⟩) 0 0)) w'):AtSlice Tryz.prog ops Q o1 t 0 #[] rest a w :=
 wpList_step fun _ hK=>by
  rw [if_pos hw]
  unfold Oper.wp execOp
  simp only [ho,List.map_toArray,List.map_nil,Sem.run_bind,run_slice0 hte hi,Result.andThen_ok,Sem.run_pure]
  exact hK _ _ (h _ _ ((H.alloc (.cells #[] e)).conv (by rw [rowsA_fp',blk_fp];rfl) fun hb=>rowsA_of_blk (xs:=[]) (by rw [blk_ho] at hb;exact hb) (by simp [maxLen]) (by simp [flatG]) hk))
end
section
variable {ops:Array Oper} {Q:Exit→Act→World→Prop} {rest:List Oper} {a:Act} {w:World} {o1:Oper}
theorem run_append_empty {t e ty:TypeId} (hte:sliceO t=some e) {z:Value} {k bytes:Nat} (hi:infoO e=some (z,k,bytes)) {b c:Nat} {ad:Option Addr} {w:World}:(Builtin.append_ #[t,t] ty #[.slice (some ⟨b,0,none⟩) 0 0,.slice ad 0 c]).run Tryz.prog w=.ok (.slice (some ⟨b,0,none⟩) 0 0) w:=by
 obtain ⟨i,h2,h3,h4,h5⟩:=infoO_ok hi
 have hu:=sliceO_ok hte
 cases ad with
 |none=>simp [Builtin.append_,run_underlying hu,sizeOf,typeInfo,h2,Builtin.lenOf,Builtin.firstCells,loadCells,loadCellsFrom,storeCells]
 |some x=>simp [Builtin.append_,run_underlying hu,sizeOf,typeInfo,h2,Builtin.lenOf,Builtin.firstCells,loadCells,loadCellsFrom,storeCells]
theorem AtAppend.none {t e:TypeId} {x y:Operand} (hw:Region.wanted o1 (yielded ops a.tmps)=true) (ho:o1.op=.call ⟨.builtin .append,#[x,y],#[t,t]⟩) (hte:sliceO t=some e) {z:Value} {k bytes:Nat} (hi:infoO e=some (z,k,bytes)) {b c:Nat} {ad:Option Addr} (hx:evalO a x=some (.slice (some ⟨b,0,Option.none⟩) 0 0)) (hy:evalO a y=some (.slice ad 0 c))
  (h:wpList Tryz.prog ops Q rest (a.put o1.dst (.slice (some ⟨b,0,Option.none⟩) 0 0)) w):AtAppend Tryz.prog ops Q o1 t x y rest a w :=
 wpList_step fun _ hK=>by
  rw [if_pos hw]
  unfold Oper.wp execOp
  simp only [ho,resolve,invoke,builtin,Sem.run_bind,Sem.run_pure,Result.andThen_ok,List.map_toArray,List.map_cons,List.map_nil,evalO_eq hx,evalO_eq hy,run_append_empty hte hi]
  exact hK _ _ h
end
theorem nil_leaves (text:List Nat):Leaves (text.map Tr.leaf):=fun t ht=>by
 obtain ⟨b,_,rfl⟩:=List.mem_map.1 ht
 exact ⟨b,rfl⟩
theorem of_zero {X:Px} {ad:Option Addr} {c:Nat} (w:World) (h:(pA X).ho w):Calls Tryz.prog 22 #[.pointer (some ⟨X.p,0,none⟩),.slice ad 0 c] w fun e w'=>e=.returned (.tuple #[.int .i64 0,.nilIface])∧w'=w:=by
 have HC0:=Lib.hid (pA_c0 h)
 clear h
 go_enter Tryz.func22,Tryz.ntmps22
 go_wp2_with (first|refine sL ?_|(refine sS ?_;clear H;intros;rename_i H)|((with_reducible refine isLoad ?_);refine AtLoad.cel rfl rfl rfl rfl HC0.out ?_;simp only [Act.put,puA,puB,puC]))
 go_ret2
 exact ⟨rfl,rfl⟩
theorem of_any {X:Px} {P:PoolT} {text:List Nat} {v:Value} (hX:PxOk X) (hr:RowIn P encT 1 v text) (hb:∀ x∈text,x<256) (hlen:text.length≤65536) (hroom:X.S.list.length+2*text.length<X.S.most) (w:World) (hd:((pA X).sep deA).ho w) (hp:((pA X).sep (poolA P)).ho w) :
  Calls Tryz.prog 22 #[.pointer (some ⟨X.p,0,none⟩),v] w fun e w'=>∃ (X':Px) (id:Nat),e=.returned (.tuple #[.int .i64 id,.nilIface])∧X.Ext X'∧PxOk X'∧IdIs X'.S id (text.map Tr.leaf)∧X'.S.list.length≤X.S.list.length+2*text.length∧St w (pA X).fp [pA X'] w':=by
 rcases Nat.eq_zero_or_pos text.length with h0|h0
 ·obtain rfl:=List.eq_nil_of_length_eq_zero h0
  obtain ⟨ad,c,rfl,_⟩:=hr
  rw [sep_ho] at hd
  refine (of_zero w hd.1).mono ?_
  rintro e w' ⟨rfl,rfl⟩
  exact ⟨X,0,rfl,.refl _,hX,.inl ⟨rfl,rfl⟩,by omega,St.one hd.1⟩
 ·obtain ⟨T,t1,t2,t3⟩:=canon_exists (nil_leaves text) (fun e=>by simp at e;rw [e] at h0;simp at h0) (by simp;omega)
  refine (of_p hX hr hb h0 hlen t1 t2 t3 w hd hp).mono ?_
  rintro e w' ⟨X',q1,q2,q3,q4,q5⟩
  rcases q4 with ⟨id,rfl,q6⟩|⟨_,q6⟩
  ·exact ⟨X',id,rfl,q1,q2,.inr ⟨T,q6,t1,t2⟩,q3,q5⟩
  ·have h9:X'.S.most=X.S.most:=q1.le.1
   omega
end
section
open Go.RowKit Go.Maps
attribute [local go_sem] InGr
end
section
open Go.RowKit Go.Maps
attribute [local go_sem] InGr
section
variable {ops:Array Oper} {Q:Exit→Act→World→Prop} {rest:List Oper} {a:Act} {w w0:World} {M:List Nat} {L:List As} {o1:Oper}
theorem AtSlice.lit {t e:TypeId} {n:Nat} {ps:Array (Nat×Operand)} (H:St w0 M L w) (hw:Region.wanted o1 (yielded ops a.tmps)=true) (ho:o1.op=.buildSlice t n ps) (hte:sliceO t=some e) {z:Value} {k bytes:Nat} {cs:Array Value} (hi:infoO e=some (z,k,bytes)) (hk:k=1) (hz:z.cells.size=1) (hn:¬ n*1 > 2 ^ 24) (hn0:¬ n*1=0)
  (hf:Instr.fill (fun i=>some (i*1,1)) ((Array.range (n*1)).map (z.cells[·%z.cells.size]!)) (ps.map fun (i,x)=>(i,a.eval x)).toList=some cs)
  (h:∀ b w',St w0 M (blk b (.cells cs e)::L) w'→wpList Tryz.prog ops Q rest (a.put o1.dst (.slice (some ⟨b,0,none⟩) n n)) w'):AtSlice Tryz.prog ops Q o1 t n ps rest a w :=
 wpList_step fun _ hK=>by
  rw [if_pos hw]
  obtain ⟨i,h2,h3,h4,h5⟩:=infoO_ok hi
  subst hk
  have hr:=run_buildSlice (P:=Tryz.prog) w t e n (ps.map fun (i,x)=>(i,a.eval x)) cs i z (sliceO_ok hte) h2 h3 (by rw [h4];exact hn) (by rw [h4];exact hn0) (by rw [h4];exact hf)
  unfold Oper.wp execOp
  simp only [ho,Sem.run_bind,hr,Result.andThen_ok,Sem.run_pure]
  exact hK _ _ (h _ _ (H.alloc _))
end
theorem St.freeze {g:Nat} {cs:Array Value} {e:TypeId} {w0 w:World} {M:List Nat} {L:List As} (h:St w0 M (blk g (.cells cs e)::L) w):St w0 M (blk g (.cells cs e (cs.size,cs.size+1))::L) (w.freeze ⟨g,cs.size,none⟩ 1):=by
 have hg:w.heap[g]?=some (.cells cs e):=h.at Pick.here
 have hs:(w.freeze ⟨g,cs.size,none⟩ 1).heap.size=w.heap.size:=by unfold World.freeze;simp
 have hlt:g<w.heap.size:=(Array.getElem?_eq_some_iff.1 hg).1
 refine St.turn h (A':=blk g (.cells cs e (cs.size,cs.size+1))) (fun b hb=>?_) rfl rfl rfl hs ?_ (by rw [blk_fp,blk_fp])
 ·have hne:g≠b:=fun e'=>hb (by simp [blk,e'])
  unfold World.freeze
  simp only [Nat.succ_ne_zero,if_false]
  rw [Array.getElem?_modify,if_neg hne]
 ·rw [blk_ho]
  unfold World.freeze
  simp only [Nat.succ_ne_zero,if_false]
  rw [Array.getElem?_modify,if_pos rfl,hg]
  rfl
theorem run_conv {t:TypeId} (hte:sliceO t=some 5) {g n c:Nat} {cs:Array Value} {e:TypeId} {w:World} (hg:w.heap[g]?=some (.cells cs e)):(convert t t (.slice (some ⟨g,0,none⟩) n c)).run Tryz.prog w=.ok (.slice (some ⟨g,0,none⟩) n c) (w.freeze ⟨g,cs.size,none⟩ 1):=by
 have hu:=run_underlying (P:=Tryz.prog) (sliceO_ok hte)
 have hu5:Tryz.prog.underlying 5=some (.int .u8):=by kernel_rfl
 have hu6:=run_underlying (P:=Tryz.prog) hu5
 simp [convert,hu,hu6,markStringish,shape,freeze,Sem.run,World.shape?,hg]
def AtConv (P:Program) (ops:Array Oper) (Q:Exit→Act→World→Prop) (o:Oper) (_:TypeId) (_:Operand) (rest:List Oper) (a:Act) (w:World):Prop:=wpList P ops Q (o::rest) a w
section
variable {ops:Array Oper} {Q:Exit→Act→World→Prop} {rest:List Oper} {a:Act} {w w0:World} {M:List Nat} {L R:List As} {o1:Oper} {dst:Option Tmp} {ty0:TypeId} {pos:String} {aft:Array Edge} {gd:Option (Nat×Bool)}
theorem AtConv.bytes {t e:TypeId} {x:Operand} (H:St w0 M L w) (hw:Region.wanted o1 (yielded ops a.tmps)=true) (ho:o1.op=.convert t t x) (hte:sliceO t=some 5) {g n c:Nat} (hx:a.eval x=.slice (some ⟨g,0,none⟩) n c) {cs:Array Value} (hp:Pick L (blk g (.cells cs e)) R)
  (h:∀ w',St w0 M (blk g (.cells cs e (cs.size,cs.size+1))::R) w'→wpList Tryz.prog ops Q rest (a.put o1.dst (.slice (some ⟨g,0,none⟩) n c)) w'):AtConv Tryz.prog ops Q o1 t x rest a w :=
 wpList_step fun _ hK=>by
  rw [if_pos hw]
  have H':=H.pick hp
  have hg:w.heap[g]?=some (.cells cs e):=H'.at Pick.here
  unfold Oper.wp execOp
  simp only [ho,hx,Sem.run_bind,run_conv hte hg,Result.andThen_ok,Sem.run_pure]
  exact hK _ _ (h _ H'.freeze)
end
end
section
open Go.RowKit Go.Maps
attribute [local go_sem] InGr
end
section
open Go.RowKit Go.Maps
attribute [local go_sem] InGr
section
variable {ops:Array Oper} {Q:Exit→Act→World→Prop} {rest:List Oper} {a:Act} {w w0:World} {M:List Nat} {L R:List As} {o1:Oper} {dst:Option Tmp} {ty0:TypeId} {pos:String} {aft:Array Edge} {gd:Option (Nat×Bool)} {Rr:Value→World→Prop}
def cutA (ad:Option Addr) (c l:Nat):Option Addr:=if c=l then ad else ad.map (·.add l)
theorem run_sl {t e:TypeId} (hte:sliceO t=some e) {z:Value} {bytes:Nat} (hi:infoO e=some (z,1,bytes)) {ad:Option Addr} {n c:Nat} (lo hi':Option Nat) {l h:Nat} (hl:lo.getD 0=l) (hh:hi'.getD n=h) (h1:l≤h) (h2:h≤c) (w:World) :
  (Instr.sliceAt t (.slice ad n c) (lo.map fun x=>.int .i64 (x:Nat)) (hi'.map fun x=>.int .i64 (x:Nat)) none).run Tryz.prog w=.ok (.slice (cutA ad c l) (h-l) (c-l)) w:=by
 obtain ⟨i,e2,e3,e4,e5⟩:=infoO_ok hi
 have hu:=sliceO_ok hte
 have hb:(Instr.sliceBound (Value.int .i64 (h:Nat)) c .sliceAcap).run Tryz.prog w=.ok h w:=by
  unfold Instr.sliceBound
  simp [asIntOf,h2]
 have hb2:(Instr.sliceBound (Value.int .i64 (l:Nat)) h .sliceB).run Tryz.prog w=.ok l w:=by
  unfold Instr.sliceBound
  simp [asIntOf,h1]
 unfold cutA
 cases lo with
 |none =>
  simp at hl
  subst hl
  cases hi' with
  |none =>
   simp at hh
   subst hh
   simp [Instr.sliceAt,Instr.slice,Instr.sliceBounds,run_underlying hu,sizeOf,typeInfo,e2,e4,Sem.run_bind,Result.andThen]
  |some x =>
   simp at hh
   subst hh
   simp [Instr.sliceAt,Instr.slice,Instr.sliceBounds,run_underlying hu,sizeOf,typeInfo,e2,e4,Sem.run_bind,Result.andThen,hb]
 |some y =>
  simp at hl
  subst hl
  cases hi' with
  |none =>
   simp at hh
   subst hh
   simp [Instr.sliceAt,Instr.slice,Instr.sliceBounds,run_underlying hu,sizeOf,typeInfo,e2,e4,Sem.run_bind,Result.andThen,hb2]
  |some x =>
   simp at hh
   subst hh
   simp [Instr.sliceAt,Instr.slice,Instr.sliceBounds,run_underlying hu,sizeOf,typeInfo,e2,e4,Sem.run_bind,Result.andThen,hb,hb2]
def AtSeg (P:Program) (ops:Array Oper) (Q:Exit→Act→World→Prop) (o:Oper) (_:TypeId) (_:Operand) (_ _:Option Operand) (rest:List Oper) (a:Act) (w:World):Prop:=wpList P ops Q (o::rest) a w
theorem AtSeg.row {t e:TypeId} {x:Operand} {y1 y2:Option Operand} (lo hi':Option Nat) (hw:Region.wanted o1 (yielded ops a.tmps)=true) (ho:o1.op=.slice t x y1 y2 none) (hte:sliceO t=some e) {z:Value} {bytes:Nat} (hi:infoO e=some (z,1,bytes)) {ad:Option Addr} {n c:Nat} (hx:a.eval x=.slice ad n c) (hy1:y1.map a.eval=lo.map fun x=>.int .i64 (x:Nat)) (hy2:y2.map a.eval=hi'.map fun x=>.int .i64 (x:Nat))
  {l h m cr:Nat} (hl:lo.getD 0=l) (hh:hi'.getD n=h) (h1:l≤h) (h2:h≤c) (hm:h-l=m) (hcr:c-l=cr) {ad':Option Addr} (had:cutA ad c l=ad')
  (h9:wpList Tryz.prog ops Q rest (a.put o1.dst (.slice ad' m cr)) w):AtSeg Tryz.prog ops Q o1 t x y1 y2 rest a w :=
 wpList_step fun _ hK=>by
  rw [if_pos hw]
  unfold Oper.wp execOp
  simp only [ho,hx,hy1,hy2,Option.map_none,Sem.run_bind,run_sl hte hi lo hi' hl hh h1 h2,Result.andThen_ok,Sem.run_pure,had,hm,hcr]
  exact hK _ _ h9
theorem StStep.seg3 {t e:TypeId} {x:Operand} {y1 y2:Option Operand} (lo hi':Option Nat) (hw:Region.wanted o1 (yielded ops a.tmps)=true) (ho:o1.op=.slice t x y1 y2 none) (hte:sliceO t=some e) {z:Value} {bytes:Nat} (hi:infoO e=some (z,1,bytes)) {ad:Option Addr} {n c:Nat} (hx:a.eval x=.slice ad n c) (hy1:y1.map a.eval=lo.map fun x=>.int .i64 (x:Nat)) (hy2:y2.map a.eval=hi'.map fun x=>.int .i64 (x:Nat))
  {l h m cr:Nat} (hl:lo.getD 0=l) (hh:hi'.getD n=h) (h1:l≤h) (h2:h≤c) (hm:h-l=m) (hcr:c-l=cr) {ad':Option Addr} (had:cutA ad c l=ad')
  (h9:Rr (.slice ad' m cr) w):StStep Tryz.prog ops o1 a w Rr :=
 StStep.val hw (by unfold execOp;simp only [ho,hx,hy1,hy2,Option.map_none,Sem.run_bind,run_sl hte hi lo hi' hl hh h1 h2,Result.andThen_ok,Sem.run_pure,had,hm,hcr]) h9
end
theorem flatT_get (xs:List Nat) (i:Nat):(flatG encT xs)[i]?=xs[i]?.map fun x=>(.int .u8 (x:Nat):Value):=by
 have:flatG encT xs=xs.map fun x=>(.int .u8 (x:Nat):Value):=by
  unfold flatG
  induction xs with
  |nil=>rfl
  |cons x xs ih=>rw [List.flatMap_cons,ih];rfl
 rw [this,List.getElem?_map]
def TxtIn (P:PoolT) (v:Value) (xs:List Nat):Prop:=∃ ad c,v=.slice ad xs.length c∧xs.length≤c∧RowIn P encT 1 v xs
theorem TxtIn.row {P:PoolT} {v:Value} {xs:List Nat} (h:TxtIn P v xs):RowIn P encT 1 v xs:=by obtain ⟨_,_,_,_,h⟩:=h;exact h
theorem TxtIn.cut {P:PoolT} {ad:Option Addr} {n c:Nat} {xs:List Nat} (h:TxtIn P (.slice ad n c) xs) (l m:Nat) (h2:l+m≤xs.length) :
  n=xs.length∧n≤c∧∃ (ad':Option Addr) (P':PoolT),cutA ad c l=ad'∧(∀ x∈P,x∈P')∧(∀ w,(poolA P).ho w→(poolA P').ho w)∧TxtIn P' (.slice ad' m (c-l)) ((xs.drop l).take m):=by
 obtain ⟨ad0,c0,e1,hc,ad1,c1,e2,hmx,hr⟩:=h
 injection e1 with q1 q2 q3
 subst q1 q2 q3
 injection e2 with q1 q2 q3
 subst q1 q3
 have hlen:((xs.drop l).take m).length=m:=by simp;omega
 refine ⟨rfl,hc,?_⟩
 rcases Nat.eq_zero_or_pos m with rfl|hm
 ·exact ⟨_,P,rfl,fun x h=>h,fun w h=>h,⟨_,_,by rw [hlen],by omega,_,_,by rw [hlen],by omega,fun h=>by omega⟩⟩
 ·obtain ⟨g,o,rfl,hp⟩:=hr (by omega)
  have hcl:¬ c=l:=by omega
  have had:cutA (some ⟨g,o,none⟩) c l=some ⟨g,o+l,none⟩:=by
   unfold cutA Addr.add
   rw [if_neg hcl]
   by_cases h0:l=0
   ·subst h0;simp
   ·simp [h0]
  refine ⟨_,(g,o+l,flatG encT ((xs.drop l).take m))::P,had,fun x h=>List.mem_cons_of_mem _ h,fun w h=>?_,⟨_,_,by rw [hlen],by omega,_,_,by rw [hlen],by omega,fun _=>⟨g,o+l,rfl,List.mem_cons_self⟩⟩⟩
  rw [poolA_ho] at h ⊢
  intro x hx
  rcases List.mem_cons.1 hx with rfl|hx
  ·refine ⟨(h _ hp).1,fun j u hj=>?_⟩
   have:=(h _ hp).2 (l+j) u (by
    rw [flatT_get] at hj ⊢
    rw [List.getElem?_take] at hj
    split at hj
    ·rwa [List.getElem?_drop] at hj
    ·simp at hj)
   simpa [Nat.add_assoc] using this
  ·exact h x hx
theorem TxtIn.mono {P Q:PoolT} {v:Value} {xs:List Nat} (h:TxtIn P v xs) (hs:∀ x∈P,x∈Q):TxtIn Q v xs:=by
 obtain ⟨ad,c,h1,h2,h3⟩:=h
 exact ⟨ad,c,h1,h2,h3.mono hs⟩
end
section
open Go.RowKit Go.Maps
attribute [local go_sem] InGr
structure Pz where
 c:Bool
 f:Int
 n:Int
 t:List Nat
structure Pi where
 c:Bool
 f:Int
 n:Int
 id:Nat
structure PiOk (S:Sto) (p:Pi) (q:Pz):Prop where
 c:p.c=q.c
 f:p.f=q.f
 n:p.n=q.n
 id:IdIs S p.id (q.t.map Tr.leaf)
theorem PiOk.le {S S':Sto} {p:Pi} {q:Pz} (h:PiOk S p q) (hS:S.Ok) (hl:S.Le S'):PiOk S' p q:=⟨h.c,h.f,h.n,h.id.le hS hl⟩
def PiL (S:Sto):List Pi→List Pz→Prop
 |[],[]=>True
 |a::l,t::u=>PiOk S a t∧PiL S l u
 |_,_=>False
theorem PiL.len {S:Sto}:∀ {l:List Pi} {u:List Pz},PiL S l u→l.length=u.length
 |[],[],_=>rfl
 |a::l,t::u,h=>by simp [PiL.len h.2]
 |[],_::_,h=>h.elim
 |_::_,[],h=>h.elim
theorem PiL.get {S:Sto}:∀ {l:List Pi} {u:List Pz} {i:Nat} {a:Pi},PiL S l u→l[i]?=some a→∃ t,u[i]?=some t∧PiOk S a t
 |[],[],i,a,_,h=>by simp at h
 |b::l,t::u,0,a,h,e=>by
  simp only [List.getElem?_cons_zero,Option.some.injEq] at e
  subst e
  exact ⟨t,rfl,h.1⟩
 |b::l,t::u,i+1,a,h,e=>by
  simp only [List.getElem?_cons_succ] at e ⊢
  exact PiL.get h.2 e
 |[],_::_,_,_,h,_=>h.elim
 |_::_,[],_,_,h,_=>h.elim
theorem PiL.le {S S':Sto} (hS:S.Ok) (hl:S.Le S'):∀ {l:List Pi} {u:List Pz},PiL S l u→PiL S' l u
 |[],[],_=>trivial
 |a::l,t::u,h=>⟨h.1.le hS hl,PiL.le hS hl h.2⟩
 |[],_::_,h=>h.elim
 |_::_,[],h=>h.elim
theorem PiL.append {S:Sto}:∀ {l l':List Pi} {u u':List Pz},PiL S l u→PiL S l' u'→PiL S (l++l') (u++u')
 |[],_,[],_,_,h=>h
 |a::l,_,t::u,_,h,k=>⟨h.1,PiL.append h.2 k⟩
 |[],_,_::_,_,h,_=>h.elim
 |_::_,_,[],_,h,_=>h.elim
end
section
open Go.RowKit Go.Maps
attribute [local go_sem] InGr
end
section
open Go.RowKit Go.Maps
attribute [local go_sem] InGr
end
section
open Go.RowKit Go.Maps
attribute [local go_sem] InGr
def strB (l:List Nat):ByteArray:=⟨(l.map UInt8.ofNat).toArray⟩
theorem strB_size (l:List Nat):(strB l).size=l.length:=by simp [strB,ByteArray.size]
theorem strB_cells {l:List Nat} (hl:∀ x∈l,x<256) (cap:Nat):∀ (j:Nat) (u:Value),(flatG encT l)[j]?=some u→(bytesRow (strB l) cap)[j]?=some u:=by
 intro j u hj
 have hf:flatG encT l=l.map fun x=>(.int .u8 (x:Nat):Value):=by
  unfold flatG encT
  clear hj hl
  induction l with
  |nil=>rfl
  |cons x l ih=>rw [List.flatMap_cons,List.map_cons,ih];rfl
 rw [hf,List.getElem?_map] at hj
 cases hx:l[j]? with
 |none=>rw [hx] at hj;simp at hj
 |some x =>
  rw [hx] at hj
  simp at hj
  subst hj
  have hjl:=gelt hx
  have hx2:x<256:=hl x (List.mem_of_getElem? hx)
  unfold bytesRow
  rw [Array.getElem?_append_left (by simp [strB];exact hjl)]
  simp only [strB,Array.getElem?_map,List.getElem?_toArray,List.getElem?_map,hx,Option.map_some]
  simp [UInt8.toNat_ofNat',Nat.mod_eq_of_lt hx2]
section
variable {ops:Array Oper} {Q:Exit→Act→World→Prop} {rest:List Oper} {a:Act} {w w0:World} {M:List Nat} {L R:List As} {o1:Oper} {dst:Option Tmp} {ty0:TypeId} {pos:String} {aft:Array Edge} {gd:Option (Nat×Bool)}
def AtBytes (P:Program) (ops:Array Oper) (Q:Exit→Act→World→Prop) (o:Oper) (_ _:TypeId) (_:Operand) (rest:List Oper) (a:Act) (w:World):Prop:=wpList P ops Q (o::rest) a w
theorem St.ofBytes {w0 w:World} {M:List Nat} {L:List As} {l:List Nat} {cap:Nat} {fr:Nat×Nat} (H:St w0 M L w) (hl:∀ x∈l,x<256):St w0 M (poolA [(w.heap.size,0,flatG encT l)]::L) (w.drew.alloc (.cells (bytesRow (strB l) cap) 5 fr)):=by
 have h1:St w0 M L w.drew:=⟨H.os,H.tape,H.output,H.size,H.keep,fun A hA=>A.loc w _ (fun _ _=>rfl) (H.ho A hA),H.own,H.dis⟩
 have h2:=h1.alloc (.cells (bytesRow (strB l) cap) 5 fr)
 refine h2.conv (by rw [poolA_fp,blk_fp];rfl) fun hb=>?_
 rw [blk_ho] at hb
 rw [poolA_ho]
 intro x hx
 simp only [List.mem_cons,List.not_mem_nil,or_false] at hx
 subst hx
 refine ⟨lt_of_block hb,fun j u hj=>?_⟩
 show (w.drew.alloc (.cells (bytesRow (strB l) cap) 5 fr)).cell? ⟨w.drew.heap.size,0+j,none⟩=some u
 rw [cell_of_row _ _ (0+j) _ _ fr hb,Nat.zero_add]
 exact strB_cells hl cap j u hj
theorem AtBytes.go {x:Operand} (H:St w0 M L w) (hw:Region.wanted o1 (yielded ops a.tmps)=true) (ho:o1.op=.convert 9 42 x) (l:List Nat) (hx:evalO a x=some (.string (strB l))) (hl:∀ x∈l,x<256) {n:Nat} (hn:l.length=n) (hm:n≤maxLen)
  (h:∀ g c w',RowIn [(g,0,flatG encT l)] encT 1 (.slice (some ⟨g,0,none⟩) n c) l→St w0 M (poolA [(g,0,flatG encT l)]::L) w'→wpList Tryz.prog ops Q rest (a.put o1.dst (.slice (some ⟨g,0,none⟩) n c)) w'):AtBytes Tryz.prog ops Q o1 9 42 x rest a w :=
 wpList_step fun _ hK=>by
  rw [if_pos hw]
  subst hn
  have hr:=run_bytes_of_string (P:=Tryz.prog) w 9 42 5 (strB l) (by kernel_rfl) (by kernel_rfl) (by kernel_rfl)
  rw [strB_size] at hr
  unfold Oper.wp execOp
  simp only [ho,evalO_eq hx,Sem.run_bind,hr,Result.andThen_ok,Sem.run_pure]
  exact hK _ _ (h _ _ _ ⟨_,_,rfl,hm,fun _=>⟨w.heap.size,0,rfl,by simp⟩⟩ (H.ofBytes hl))
end
attribute [irreducible] strB
attribute [local go_sem] strB_size
end
section
open Go.RowKit Go.Maps
attribute [local go_sem] InGr strB_size
section
variable {a:Act} {ops:Array Oper} {K:Act→Prop} {rest:List Oper} {dst:Option Tmp} {ty0:TypeId} {pos:String} {aft:Array Edge} {gd:Option (Nat×Bool)} {w1:World}
def QtConv (P:Program) (ops:Array Oper) (C:World→Prop) (K:Act→Prop) (o:Oper) (_ _:TypeId) (_:Operand) (rest:List Oper) (a:Act):Prop:=wpQuiet P ops C K (o::rest) a
theorem QtConv.go {o1:Oper} {t u:TypeId} {x:Operand} (hw:Region.wanted o1 (yielded ops a.tmps)=true) (ho:o1.op=.convert t u x) {v z:Value} (hx:a.eval x=v) (hc:∀ y:Gr w1,(convert t u v).run Tryz.prog y.1=.ok z y.1)
  (h:wpQuiet Tryz.prog ops (InGr w1) K rest (a.put o1.dst z)):QtConv Tryz.prog ops (InGr w1) K o1 t u x rest a :=
 wpQuiet_step fun _ hK=>by
  rw [if_pos hw]
  refine ⟨z,fun w2 ⟨y,hy⟩=>?_,hK _ h⟩
  subst hy
  unfold Oper.quietAt execOp
  simp only [ho,hx,Sem.run_bind,hc y,Result.andThen_ok]
  exact ⟨rfl,rfl⟩
end
end
section
open Go.RowKit Go.Maps
attribute [local go_sem] InGr strB_size
def encK (q:Nat×Nat):Value×Value:=(.int .i64 q.1,.int .i64 q.2)
def KnOk (S:Sto) (K:List (Nat×Nat)):Prop:=∀ q∈K,1≤q.1∧q.1≤S.list.length∧IdIs S q.2 ((S.tr q.1).txt.map Tr.leaf)
theorem KnOk.le {S S':Sto} {K:List (Nat×Nat)} (h:KnOk S K) (hS:S.Ok) (hl:S.Le S'):KnOk S' K:=fun q hq=>by
 obtain ⟨h1,h2,h3⟩:=h q hq
 refine ⟨h1,Nat.le_trans h2 hl.len,?_⟩
 rw [hl.tr hS h1 h2]
 exact h3.le hS hl
theorem id_key (x:Nat) (hx:x≤1152921504606846976):∃ l,keyOf Tryz.prog 26 (.int .i64 (x:Nat))=some l:=by
 have h2:Tryz.prog.underlying 26=some (.int .i64):=un_26
 have hw:=wf_i64 x (by omega)
 unfold keyOf mapKey
 simp [h2,hw]
theorem kn_look {mp x:Nat} {K:List (Nat×Nat)} {w:World} (ok:Bool) (hx:x≤1152921504606846976) (h:(mapA Tryz.prog 26 mp (K.map encK)).ho w) :
  (∃ y,(x,y)∈K∧(Instr.lookup 136 (.map (some mp)) (.int .i64 (x:Nat)) ok).run Tryz.prog w=.ok (if ok then .tuple #[.int .i64 (y:Nat),.bool true] else .int .i64 (y:Nat)) w)∨((∀ q∈K,q.1≠x)∧(Instr.lookup 136 (.map (some mp)) (.int .i64 (x:Nat)) ok).run Tryz.prog w=.ok (if ok then .tuple #[.int .i64 0,.bool false] else .int .i64 0) w):=by
 obtain ⟨l,hl⟩:=id_key x hx
 obtain ⟨v,b,hv,hr⟩:=run_lookup_st keyed_26 h mt_136 hl (zO_ok (t:=26) rfl) ok
 have hmem:∀ {u:Value},(.int .i64 (x:Nat),u)∈K.map encK→∃ y,(x,y)∈K∧u=.int .i64 (y:Nat):=fun {u} hu=>by
  obtain ⟨⟨a,c⟩,hq,he⟩:=List.mem_map.1 hu
  simp only [encK,Prod.mk.injEq,Value.int.injEq,true_and] at he
  obtain ⟨e1,e2⟩:=he
  have e3:a=x:=by omega
  subst e3
  exact ⟨c,hq,e2.symm⟩
 have hk:∀ {y},(x,y)∈K→encK (x,y)∈K.map encK:=fun h=>List.mem_map.2 ⟨_,h,rfl⟩
 rcases hv with ⟨rfl,h1⟩|⟨rfl,rfl,h1⟩
 ·obtain ⟨y,hy,rfl⟩:=hmem h1
  exact .inl ⟨y,hy,hr⟩
 ·refine .inr ⟨fun q hq e=>?_,hr⟩
  obtain ⟨a,c⟩:=q
  simp only at e
  subst e
  exact h1 _ (hk hq) rfl
theorem cnew_c {X:Px} (w:World):Calls Tryz.prog 36 #[.pointer (some ⟨X.p,0,none⟩)] w fun e w'=>∃ bm mp:Nat,e=.returned (.pointer (some ⟨bm,0,none⟩))∧St w [] [blk bm (.cells #[.pointer (some ⟨X.p,0,none⟩),.map (some mp)] 138),mapA Tryz.prog 26 mp (([]:List (Nat×Nat)).map encK)] w':=by
 have H:=St.nil w []
 go_enter Tryz.func36,Tryz.ntmps36
 go_wp2_with (first|refine sL ?_|(refine sS ?_;clear H;intros;rename_i H)|((with_reducible refine isMakeMap ?_);refine AtMakeMap.go 26 H rfl rfl ?_;clear H;intro mp _ H;simp only [Act.put,puA,puB,puC]))
 go_ret
 exact ⟨_,mp,rfl,by simpa using H.picks (.cons (A:=blk _ (.cells #[.pointer (some ⟨X.p,0,none⟩),.map (some mp)] 138)) pk (.cons (A:=mapA Tryz.prog 26 mp []) pk .nil))⟩
theorem remember_c {X:Px} {bm mp x y:Nat} {K:List (Nat×Nat)} (hx:x≤1152921504606846976) (hn:∀ q∈K,q.1≠x) (w:World) (h:((blk bm (.cells #[.pointer (some ⟨X.p,0,none⟩),.map (some mp)] 138)).sep (mapA Tryz.prog 26 mp (K.map encK))).ho w):Calls Tryz.prog 103 #[.pointer (some ⟨bm,0,none⟩),.int .i64 (x:Nat),.int .i64 (y:Nat),.nilIface] w fun e w'=>e=.returned .nilIface∧St w ((blk bm (.cells #[.pointer (some ⟨X.p,0,none⟩),.map (some mp)] 138)).sep (mapA Tryz.prog 26 mp (K.map encK))).fp [blk bm (.cells #[.pointer (some ⟨X.p,0,none⟩),.map (some mp)] 138),mapA Tryz.prog 26 mp ((K++[(x,y)]).map encK)] w':=by
 have H:=(St.one h).sep
 generalize ((blk bm (.cells #[.pointer (some ⟨X.p,0,none⟩),.map (some mp)] 138)).sep (mapA Tryz.prog 26 mp (K.map encK))).fp=N at H ⊢
 obtain ⟨l,hl⟩:=id_key x hx
 have HN:Hid (∀ e∈K.map encK,e.1≠.int .i64 (x:Nat)):=Lib.hid fun e he e1=>by
  obtain ⟨q,hq,rfl⟩:=List.mem_map.1 he
  simp only [encK,Value.int.injEq,true_and] at e1
  exact hn q hq (by omega)
 have HL:=Lib.hid hl
 clear h hn hx hl
 go_enter Tryz.func103,Tryz.ntmps103
 go_wp2_with (first|refine sL ?_|(refine sS ?_;clear H;intros;rename_i H)|((with_reducible refine isUpdate ?_);refine AtUpdate.new keyed_26 mt_136 H rfl rfl rfl pk (k:=.int .i64 (x:Nat)) (v:=.int .i64 (y:Nat)) rfl rfl HL.out HN.out ?_;clear H;intro _ H;simp only [Act.put,puA,puB,puC]))
 go_ret
 refine ⟨rfl,?_⟩
 have:=H.picks (.cons (A:=blk bm (.cells #[.pointer (some ⟨X.p,0,none⟩),.map (some mp)] 138)) pk (.cons pk .nil))
 simpa [encK] using this
theorem tr_lt {S:Sto} (hS:S.Ok):∀ (i:Nat),i<S.list.length→∀ b∈(S.tr (i+1)).txt,b<256:=by
 intro i
 induction i using Nat.strongRecOn with
 |_ i ih =>
  intro hi b hb
  cases rule_of hS (List.getElem?_eq_getElem hi) with
  |letter c hc hr hw ht =>
   rw [ht] at hb
   simp [Tr.txt] at hb
   omega
  |pair l r y z hl hr hy hz he hw hs ht =>
   rw [ht] at hb
   simp only [Tr.txt,List.mem_append] at hb
   rcases hb with hb|hb
   ·exact ih l hl (by omega) b hb
   ·exact ih r hr (by omega) b hb
  |pow l k y hl hy hk he hw hs ht =>
   rw [ht] at hb
   simp only [Tr.txt] at hb
   obtain ⟨t,ht2,hb⟩:=List.mem_flatten.1 hb
   rw [(List.mem_replicate.1 ht2).2] at hb
   exact ih l hl (by omega) b hb
theorem learn_c {X:Px} {bm mp x:Nat} {K:List (Nat×Nat)} (hX:PxOk X) (h1:1≤x) (h2:x≤X.S.list.length) (hn:∀ q∈K,q.1≠x) {L9:Nat} (hL9:L9≤256) (ht:(X.S.tr x).len≤L9) (hroom:X.S.list.length+2*L9<X.S.most) (hmost:X.S.most≤1048576) (w:World) (h:((pA X).sep ((blk bm (.cells #[.pointer (some ⟨X.p,0,none⟩),.map (some mp)] 138)).sep (mapA Tryz.prog 26 mp (K.map encK)))).ho w) (hd:(((pA X).sep ((blk bm (.cells #[.pointer (some ⟨X.p,0,none⟩),.map (some mp)] 138)).sep (mapA Tryz.prog 26 mp (K.map encK)))).sep deA).ho w) :
  Calls Tryz.prog 71 #[.pointer (some ⟨bm,0,none⟩),.int .i64 (x:Nat)] w fun e w'=>∃ (X':Px) (y:Nat),e=.returned (.tuple #[.int .i64 0,.nilIface])∧X.Ext X'∧PxOk X'∧IdIs X'.S y ((X.S.tr x).txt.map Tr.leaf)∧X'.S.list.length≤X.S.list.length+2*L9∧St w ((pA X).sep ((blk bm (.cells #[.pointer (some ⟨X.p,0,none⟩),.map (some mp)] 138)).sep (mapA Tryz.prog 26 mp (K.map encK)))).fp [pA X',blk bm (.cells #[.pointer (some ⟨X.p,0,none⟩),.map (some mp)] 138),mapA Tryz.prog 26 mp ((K++[(x,y)]).map encK)] w':=by
 have H:=((St.one h).sep.pick (A:=((blk bm (.cells #[.pointer (some ⟨X.p,0,none⟩),.map (some mp)] 138)).sep (mapA Tryz.prog 26 mp (K.map encK)))) pk).sep
 rw [sep_ho] at hd
 have HK:Ks w ((pA X).sep ((blk bm (.cells #[.pointer (some ⟨X.p,0,none⟩),.map (some mp)] 138)).sep (mapA Tryz.prog 26 mp (K.map encK)))).fp [deA]:=⟨by simpa using hd.2.1,by simpa using fun b hb hm=>hd.2.2 b hm hb⟩
 generalize ((pA X).sep ((blk bm (.cells #[.pointer (some ⟨X.p,0,none⟩),.map (some mp)] 138)).sep (mapA Tryz.prog 26 mp (K.map encK)))).fp=N at H HK ⊢
 obtain ⟨t,htt⟩:∃ t,(X.S.tr x).txt=t:=⟨_,rfl⟩
 obtain ⟨n,hnn⟩:∃ n,t.length=n:=⟨_,rfl⟩
 have hln:(X.S.tr x).len=n:=by rw [← Tr.txt_len,htt,hnn]
 obtain ⟨j,hj⟩:∃ j,x=j+1:=⟨x-1,by omega⟩
 obtain ⟨en,hen⟩:∃ a,X.S.list[j]?=some a:=⟨_,List.getElem?_eq_getElem (by omega)⟩
 have hlw:en.w.len=n:=by rw [← hln,hj];exact (tr_len hX.ok j en hen).1.symm
 have hlt:∀ b∈t,b<256:=by rw [← htt,hj];exact tr_lt hX.ok j (by omega)
 have HS:Hid (∀ w,(pA X).ho w→Calls Tryz.prog 53 #[.pointer (some ⟨X.p,0,none⟩)] w fun e w'=>e=.returned (.pointer (some ⟨X.s,0,none⟩))∧w'=w):=Lib.hid fun w h=>store_p w h
 have hW:Hid (∀ w,(pA X).ho w→Calls Tryz.prog 40 #[.pointer (some ⟨X.s,0,none⟩),.int .i64 (x:Nat)] w fun e w'=>e=.returned (.tuple #[.agg #[.int .i64 (n:Nat),.int .i64 en.w.lines,.int .i64 en.w.head,.int .i64 en.w.tail,.int .u64 en.w.val,.int .u64 en.w.scale],.nilIface])∧St w [] [] w'):=Lib.hid fun w h=>by
  have:=weight_c (i:=x) (x:=en) (by rw [hj];exact hen) w (pA_sto h)
  rw [← hlw]
  exact this
 have HE:Hid (∀ w,(pA X).ho w→Calls Tryz.prog 78 #[.pointer (some ⟨X.s,0,none⟩),.int .i64 (x:Nat),.int .i64 0,.int .i64 (n:Nat)] w fun e w'=>∃ v':Value,e=.returned (.tuple #[v',.nilIface])∧St w [] [rowsA encT 5 1 v' t] w'):=Lib.hid fun w h=>extract_c hX.ok (.inr ⟨h1,h2,hln.symm,htt.symm⟩) (by omega) w (pA_sto h)
 have HO:Hid (∀ (v:Value) w,((pA X).sep deA).ho w→((pA X).sep (rowsA encT 5 1 v t)).ho w→Calls Tryz.prog 22 #[.pointer (some ⟨X.p,0,none⟩),v] w fun e w'=>∃ (X':Px) (id:Nat),e=.returned (.tuple #[.int .i64 id,.nilIface])∧X.Ext X'∧PxOk X'∧IdIs X'.S id (t.map Tr.leaf)∧X'.S.list.length≤X.S.list.length+2*t.length∧St w (pA X).fp [pA X'] w'):=Lib.hid fun v w h hr=>by
  rw [sep_ho] at hr
  obtain ⟨P,r1,r2,r3⟩:=rowsA_pool hr.2.1 encT_len
  exact of_any hX r1 hlt (by omega) (by omega) w h (by rw [sep_ho];exact ⟨hr.1,r2,fun b hb hc=>hr.2.2 b hb (r3 b hc)⟩)
 have HR:Hid (∀ (y:Nat) w,(((blk bm (.cells #[.pointer (some ⟨X.p,0,none⟩),.map (some mp)] 138)).sep (mapA Tryz.prog 26 mp (K.map encK)))).ho w→Calls Tryz.prog 103 #[.pointer (some ⟨bm,0,none⟩),.int .i64 (x:Nat),.int .i64 (y:Nat),.nilIface] w fun e w'=>e=.returned .nilIface∧St w (((blk bm (.cells #[.pointer (some ⟨X.p,0,none⟩),.map (some mp)] 138)).sep (mapA Tryz.prog 26 mp (K.map encK)))).fp [blk bm (.cells #[.pointer (some ⟨X.p,0,none⟩),.map (some mp)] 138),mapA Tryz.prog 26 mp ((K++[(x,y)]).map encK)] w'):=Lib.hid fun y w h=>remember_c (by omega) hn w h
 have hnb:n≤256:=by omega
 have hnb9:n≤L9:=by omega
 have HL:Hid (t.length=n∧n≤256∧n≤L9):=Lib.hid ⟨hnn,hnb,hnb9⟩
 have d1:decide ((n:Int)≤256)=true:=by simp;omega
 have d1n:decide (n≤256)=true:=by simp;omega
 rw [htt]
 clear hnb9 hL9 h hd hX h1 h2 hn ht hroom hmost htt hnn hln hj hen hlw hlt
 go_enter Tryz.func71,Tryz.ntmps71
 go_wp2_with (first|refine sL ?_|(refine sS ?_;clear H;intros;rename_i H)|(go_at_call 53;with_reducible refine same (HS.out _ (H.get (A:=pA X) pk)) ?_)|(go_at_call 40;with_reducible refine Calls.mono (hW.out _ (H.get (A:=pA X) pk)) ?_;rintro e9 wc ⟨rfl,hb⟩;replace H:=H.grew hb.below;clear hb)|(go_at_call 78;with_reducible refine Calls.mono (HE.out _ (H.get (A:=pA X) pk)) ?_;rintro e9 wc ⟨v2,rfl,hb⟩;replace H:=H.call0 hb;clear hb;simp only [List.cons_append,List.nil_append] at H)|(go_at_call 22;with_reducible refine Calls.mono (HO.out v2 _ (H.sepK (A:=pA X) HK pk pk) (H.sepO (A:=pA X) (B:=rowsA encT 5 1 v2 t) pk pk)) ?_;rintro e9 wc ⟨X2,y2,rfl,y1,y3,y4,y5,hb⟩;have HZ:=Lib.hid (And.intro y1 (And.intro y3 (And.intro y4 y5)));clear y1 y3 y4 y5;replace H:=(H.pick (A:=pA X) pk).call hb;clear hb;simp only [List.cons_append,List.nil_append] at H)|(go_at_call 103;with_reducible refine Calls.mono (HR.out y2 _ (St.ho (H.pick2 (A:=blk bm (.cells #[.pointer (some ⟨X.p,0,none⟩),.map (some mp)] 138)) (B:=mapA Tryz.prog 26 mp (K.map encK)) pk pk).join _ List.mem_cons_self)) ?_;rintro e9 wc ⟨rfl,hb⟩;replace H:=(H.pick2 (A:=blk bm (.cells #[.pointer (some ⟨X.p,0,none⟩),.map (some mp)] 138)) (B:=mapA Tryz.prog 26 mp (K.map encK)) pk pk).join.call hb;clear hb;simp only [List.cons_append,List.nil_append] at H))
 go_ret2
 have h1:=HZ.out
 have h2:=HL.out
 exact ⟨X2,y2,rfl,h1.1,h1.2.1,h1.2.2.1,by omega,H.picks (.cons (A:=pA X2) pk (.cons (A:=blk bm (.cells #[.pointer (some ⟨X.p,0,none⟩),.map (some mp)] 138)) pk (.cons (A:=mapA Tryz.prog 26 mp ((K++[(x,y2)]).map encK)) pk .nil)))⟩
end
section
open Go.RowKit Go.Maps
attribute [local go_sem] InGr strB_size
def OfR (X:Px) (N:List Nat) (w:World) (bm mp x b9:Nat) (K:List (Nat×Nat)) (L9:Nat) (m:Nat) (v:Value) (wr:World):Prop :=
 ∃ (X2:Px) (K2:List (Nat×Nat)),m≤2∧v=.slice (some ⟨b9,0,none⟩) (if m=0 then 0 else 1) 1∧(KnOk X2.S K2∧X.Ext X2∧PxOk X2∧X2.S.list.length≤X.S.list.length+2*L9∧((m=2∧X2=X∧K2=K)∨∃ y,(x,y)∈K2))∧St w N [pA X2,blk bm (.cells #[.pointer (some ⟨X.p,0,none⟩),.map (some mp)] 138),mapA Tryz.prog 26 mp (K2.map encK),blk b9 (.cells #[.int .i64 (x:Nat)] 26)] wr
theorem of_c {X:Px} {bm mp x:Nat} {K:List (Nat×Nat)} (hX:PxOk X) (h1:1≤x) (h2:x≤X.S.list.length) (hK:KnOk X.S K) {L9:Nat} (hL9:L9≤256) (ht:(X.S.tr x).len≤L9) (hroom:X.S.list.length+2*L9<X.S.most) (hmost:X.S.most≤1048576) (w:World) (h:((pA X).sep ((blk bm (.cells #[.pointer (some ⟨X.p,0,none⟩),.map (some mp)] 138)).sep (mapA Tryz.prog 26 mp (K.map encK)))).ho w) (hd:(((pA X).sep ((blk bm (.cells #[.pointer (some ⟨X.p,0,none⟩),.map (some mp)] 138)).sep (mapA Tryz.prog 26 mp (K.map encK)))).sep deA).ho w) :
  Calls Tryz.prog 35 #[.pointer (some ⟨bm,0,none⟩),.int .i64 (x:Nat)] w fun e w'=>∃ (X':Px) (K':List (Nat×Nat)) (y:Nat),e=.returned (.tuple #[.int .i64 y,.nilIface])∧X.Ext X'∧PxOk X'∧KnOk X'.S K'∧IdIs X'.S y (((X.S.tr x).txt.map Tr.leaf))∧X'.S.list.length≤X.S.list.length+2*L9∧St w ((pA X).sep ((blk bm (.cells #[.pointer (some ⟨X.p,0,none⟩),.map (some mp)] 138)).sep (mapA Tryz.prog 26 mp (K.map encK)))).fp [pA X',blk bm (.cells #[.pointer (some ⟨X.p,0,none⟩),.map (some mp)] 138),mapA Tryz.prog 26 mp (K'.map encK)] w':=by
 have H:=((St.one h).sep.pick (A:=((blk bm (.cells #[.pointer (some ⟨X.p,0,none⟩),.map (some mp)] 138)).sep (mapA Tryz.prog 26 mp (K.map encK)))) pk).sep
 rw [sep_ho] at hd
 have HK:Ks w ((pA X).sep ((blk bm (.cells #[.pointer (some ⟨X.p,0,none⟩),.map (some mp)] 138)).sep (mapA Tryz.prog 26 mp (K.map encK)))).fp [deA]:=⟨by simpa using hd.2.1,by simpa using fun b hb hm=>hd.2.2 b hm hb⟩
 have HLN:Hid (∀ w,((pA X).sep ((blk bm (.cells #[.pointer (some ⟨X.p,0,none⟩),.map (some mp)] 138)).sep (mapA Tryz.prog 26 mp (K.map encK)))).ho w→(((pA X).sep ((blk bm (.cells #[.pointer (some ⟨X.p,0,none⟩),.map (some mp)] 138)).sep (mapA Tryz.prog 26 mp (K.map encK)))).sep deA).ho w→(∀ q∈K,q.1≠x)→Calls Tryz.prog 71 #[.pointer (some ⟨bm,0,none⟩),.int .i64 (x:Nat)] w fun e w'=>∃ (X':Px) (y:Nat),e=.returned (.tuple #[.int .i64 0,.nilIface])∧X.Ext X'∧PxOk X'∧IdIs X'.S y (((X.S.tr x).txt.map Tr.leaf))∧X'.S.list.length≤X.S.list.length+2*L9∧St w ((pA X).sep ((blk bm (.cells #[.pointer (some ⟨X.p,0,none⟩),.map (some mp)] 138)).sep (mapA Tryz.prog 26 mp (K.map encK)))).fp [pA X',blk bm (.cells #[.pointer (some ⟨X.p,0,none⟩),.map (some mp)] 138),mapA Tryz.prog 26 mp ((K++[(x,y)]).map encK)] w'):=Lib.hid fun w h hd hn=>learn_c hX h1 h2 hn hL9 ht hroom hmost w h hd
 generalize ((pA X).sep ((blk bm (.cells #[.pointer (some ⟨X.p,0,none⟩),.map (some mp)] 138)).sep (mapA Tryz.prog 26 mp (K.map encK)))).fp=N at H HK ⊢
 have HS:Hid (∀ w,(pA X).ho w→Calls Tryz.prog 53 #[.pointer (some ⟨X.p,0,none⟩)] w fun e w'=>e=.returned (.pointer (some ⟨X.s,0,none⟩))∧w'=w):=Lib.hid fun w h=>store_p w h
 have HLE:Hid (∀ w,(pA X).ho w→Calls Tryz.prog 38 #[.pointer (some ⟨X.s,0,none⟩)] w fun e w'=>e=.returned (.int .i64 (X.S.list.length:Nat))∧w'=w):=Lib.hid fun w h=>len_c w (pA_sto h)
 obtain ⟨ln,hln⟩:∃ k,X.S.list.length=k:=⟨_,rfl⟩
 rw [hln] at HLE
 have HIN:Hid (PxOk X∧1≤x∧x≤ln∧KnOk X.S K∧X.S.list.length=ln∧ln≤1048576):=Lib.hid ⟨hX,h1,by omega,hK,hln,by omega⟩
 have d1:decide ((x:Int)<0)=false:=by simp
 have d2:decide ((ln:Int)<(x:Int))=false:=by simp;omega
 have d2n:decide (ln<x)=false:=by simp;omega
 have d3:((x:Int)==0)=false:=by simp;omega
 have hxb:x≤1152921504606846976:=by omega
 clear hL9 hX h1 h2 hK ht hroom hmost h hd hln
 go_enter Tryz.func35,Tryz.ntmps35
 go_wp2_with (first|refine sL ?_|(refine sS ?_;clear H;intros;rename_i H)|(go_at_call 53;with_reducible refine same (HS.out _ (H.get (A:=pA X) pk)) ?_)|(go_at_call 38;with_reducible refine same (HLE.out _ (H.get (A:=pA X) pk)) ?_)|((with_reducible refine isSlice ?_);refine AtSlice.one H rfl rfl rfl rfl rfl rfl rfl rfl rfl ?_;clear H;intro b9 _ H;simp only [Act.put,puA,puB,puC]))
 go_loopg [6] 2 (fun m v6 wr=>OfR X N w bm mp x b9 K L9 m v6 wr)
 case atStart=>exact ⟨X,K,Nat.le_refl _,rfl,⟨HIN.out.2.2.2.1,.refl _,HIN.out.1,by omega,.inl ⟨rfl,rfl,rfl⟩⟩,H.picks (.cons (A:=pA X) pk (.cons (A:=blk bm (.cells #[.pointer (some ⟨X.p,0,none⟩),.map (some mp)] 138)) pk (.cons (A:=mapA Tryz.prog 26 mp (K.map encK)) pk (.cons (A:=blk b9 (.cells #[.int .i64 (x:Nat)] 26)) pk .nil))))⟩
 case round =>
  clear H
  obtain ⟨X2,K2,hm2,rfl,hrel,H⟩:=hrel
  have HRL:=Lib.hid hrel
  rcases Nat.eq_zero_or_pos gk with hm0|hm0
  ·subst hm0
   simp only [if_true]
   have hy0:∃ y,(x,y)∈K2:=by
    rcases hrel.2.2.2.2 with ⟨h,_⟩|h
    ·omega
    ·exact h
   rcases kn_look (x:=x) false hxb (H.get (A:=mapA Tryz.prog 26 mp (K2.map encK)) pk) with ⟨y,hy,hlk⟩|⟨hno,_⟩
   ·simp only [Bool.false_eq_true,if_false] at hlk
    have HY:=Lib.hid hy
    clear hrel hy hy0
    go_wp2_with (first|refine sL ?_|(refine sS ?_;clear H;intros;rename_i H))
    go_ret2
    have h1:=HRL.out
    have h3:=HIN.out
    obtain ⟨k1,k2,k3⟩:=h1.1 _ HY.out
    simp only at k3
    rw [h1.2.1.le.tr h3.1.ok h3.2.1 (by omega)] at k3
    exact ⟨X2,K2,y,rfl,h1.2.1,h1.2.2.1,h1.1,k3,h1.2.2.2.1,H.picks (.cons (A:=pA X2) pk (.cons (A:=blk bm (.cells #[.pointer (some ⟨X.p,0,none⟩),.map (some mp)] 138)) pk (.cons (A:=mapA Tryz.prog 26 mp (K2.map encK)) pk .nil)))⟩
   ·obtain ⟨y,hy⟩:=hy0
    exact absurd rfl (hno _ hy)
  ·have hm1:¬ gk=0:=by omega
   simp only [hm1,if_false]
   rcases kn_look (x:=x) true hxb (H.get (A:=mapA Tryz.prog 26 mp (K2.map encK)) pk) with ⟨y,hy,hlk⟩|⟨hno,hlk⟩
   ·simp only [if_true] at hlk
    have HY:=Lib.hid hy
    clear hrel hy
    go_wp2_with (first|refine sL ?_|(refine sS ?_;clear H;intros;rename_i H))
    go_roundg 0
    case measure=>omega
    case rel=>exact ⟨X2,K2,by omega,rfl,⟨HRL.out.1,HRL.out.2.1,HRL.out.2.2.1,HRL.out.2.2.2.1,.inr ⟨y,HY.out⟩⟩,H.picks (.cons (A:=pA X2) pk (.cons (A:=blk bm (.cells #[.pointer (some ⟨X.p,0,none⟩),.map (some mp)] 138)) pk (.cons (A:=mapA Tryz.prog 26 mp (K2.map encK)) pk (.cons (A:=blk b9 (.cells #[.int .i64 (x:Nat)] 26)) pk .nil))))⟩
   ·simp only [if_true] at hlk
    rcases hrel.2.2.2.2 with ⟨e1,e2,e3⟩|⟨y,hy⟩
    ·subst e1
     obtain rfl:=e2.symm
     obtain rfl:=e3.symm
     have HNO:=Lib.hid hno
     clear hrel hno e2 e3
     go_wp2_with (first|refine sL ?_|(refine sS ?_;clear H;intros;rename_i H)|(go_at_call 71;with_reducible refine Calls.mono (HLN.out _ ((St.join3 (H.pick3 (A:=pA X) (B:=blk bm (.cells #[.pointer (some ⟨X.p,0,none⟩),.map (some mp)] 138)) (C:=mapA Tryz.prog 26 mp (K.map encK)) pk pk pk)).ho _ List.mem_cons_self) ((St.join3 (H.pick3 (A:=pA X) (B:=blk bm (.cells #[.pointer (some ⟨X.p,0,none⟩),.map (some mp)] 138)) (C:=mapA Tryz.prog 26 mp (K.map encK)) pk pk pk)).sepK HK .here pk) HNO.out) ?_;rintro e9 wc ⟨X3,y3,rfl,y1,y2,y4,y5,hb⟩;have HZ:=Lib.hid (And.intro y1 (And.intro y2 (And.intro y4 y5)));clear y1 y2 y4 y5;replace H:=(St.join3 (H.pick3 (A:=pA X) (B:=blk bm (.cells #[.pointer (some ⟨X.p,0,none⟩),.map (some mp)] 138)) (C:=mapA Tryz.prog 26 mp (K.map encK)) pk pk pk)).call hb;clear hb hlk;simp only [List.cons_append,List.nil_append] at H))
     go_roundg 1
     case measure=>omega
     case rel =>
      have h1:=HZ.out
      have h3:=HIN.out
      have hkn:KnOk X3.S (K++[(x,y3)]):=fun q hq=>by
       rcases List.mem_append.1 hq with hq|hq
       ·exact (h3.2.2.2.1.le h3.1.ok h1.1.le) q hq
       ·simp at hq
        subst hq
        refine ⟨h3.2.1,?_,?_⟩
        ·have:=h1.1.le.len;simp only;omega
        ·rw [h1.1.le.tr h3.1.ok h3.2.1 (by omega)]
         exact h1.2.2.1
      exact ⟨X3,K++[(x,y3)],by omega,rfl,⟨hkn,h1.1,h1.2.1,h1.2.2.2,.inr ⟨y3,by simp⟩⟩,H.picks (.cons (A:=pA X3) pk (.cons (A:=blk bm (.cells #[.pointer (some ⟨X.p,0,none⟩),.map (some mp)] 138)) pk (.cons (A:=mapA Tryz.prog 26 mp ((K++[(x,y3)]).map encK)) pk (.cons (A:=blk b9 (.cells #[.int .i64 (x:Nat)] 26)) pk .nil))))⟩
    ·exact absurd rfl (hno _ hy)
def AllOk (S S':Sto) (l m:List Nat):Prop:=l.length=m.length∧∀ (i a b:Nat),l[i]?=some a→m[i]?=some b→IdIs S' b ((S.tr a).txt.map Tr.leaf)
def AlRel (X:Px) (N:List Nat) (w:World) (bm mp n:Nat) (ids:List Nat) (m:Nat) (v1 v2:Value) (wr:World):Prop :=
 ∃ (i:Nat) (X2:Px) (K2:List (Nat×Nat)) (out:List Nat),m=n-i∧i≤n∧v2=.int .i64 i∧(AllOk X.S X2.S (ids.take i) out∧KnOk X2.S K2∧X.Ext X2∧PxOk X2∧X2.S.list.length≤X.S.list.length+i*512)∧St w N [pA X2,blk bm (.cells #[.pointer (some ⟨X.p,0,none⟩),.map (some mp)] 138),mapA Tryz.prog 26 mp (K2.map encK),rowsA encI 26 1 v1 out] wr
theorem all_c {X:Px} {bm mp n c:Nat} {ad:Option Addr} {ids:List Nat} {K:List (Nat×Nat)} (hX:PxOk X) (hn:ids.length=n) (hn2:n≤16) (hid:∀ x∈ids,1≤x∧x≤X.S.list.length∧(X.S.tr x).len≤256) (hK:KnOk X.S K) (hroom:X.S.list.length+10000<X.S.most) (hmost:X.S.most≤1048576) (w:World) (h:((pA X).sep ((blk bm (.cells #[.pointer (some ⟨X.p,0,none⟩),.map (some mp)] 138)).sep (mapA Tryz.prog 26 mp (K.map encK)))).ho w) (hd:(((pA X).sep ((blk bm (.cells #[.pointer (some ⟨X.p,0,none⟩),.map (some mp)] 138)).sep (mapA Tryz.prog 26 mp (K.map encK)))).sep deA).ho w) (hr:(((pA X).sep ((blk bm (.cells #[.pointer (some ⟨X.p,0,none⟩),.map (some mp)] 138)).sep (mapA Tryz.prog 26 mp (K.map encK)))).sep (rowsA encI 26 1 (.slice ad n c) ids)).ho w) :
  Calls Tryz.prog 44 #[.pointer (some ⟨bm,0,none⟩),.slice ad n c] w fun e w'=>∃ (X':Px) (v':Value) (out:List Nat),e=.returned (.tuple #[v',.nilIface])∧X.Ext X'∧PxOk X'∧AllOk X.S X'.S ids out∧St w ((pA X).sep ((blk bm (.cells #[.pointer (some ⟨X.p,0,none⟩),.map (some mp)] 138)).sep (mapA Tryz.prog 26 mp (K.map encK)))).fp [pA X',rowsA encI 26 1 v' out] w':=by
 have H:=((St.one h).sep.pick (A:=((blk bm (.cells #[.pointer (some ⟨X.p,0,none⟩),.map (some mp)] 138)).sep (mapA Tryz.prog 26 mp (K.map encK)))) pk).sep
 rw [sep_ho] at hd hr
 have HK:Ks w ((pA X).sep ((blk bm (.cells #[.pointer (some ⟨X.p,0,none⟩),.map (some mp)] 138)).sep (mapA Tryz.prog 26 mp (K.map encK)))).fp [deA,rowsA encI 26 1 (.slice ad n c) ids]:=⟨fun A hA=>by
   simp at hA
   rcases hA with rfl|rfl
   ·exact hd.2.1
   ·exact hr.2.1,fun A hA b hbA hm=>by
   simp at hA
   rcases hA with rfl|rfl
   ·exact hd.2.2 b hm hbA
   ·exact hr.2.2 b hm hbA⟩
 generalize ((pA X).sep ((blk bm (.cells #[.pointer (some ⟨X.p,0,none⟩),.map (some mp)] 138)).sep (mapA Tryz.prog 26 mp (K.map encK)))).fp=N at H HK ⊢
 have HIN:Hid (PxOk X∧ids.length=n∧n≤16∧(∀ x∈ids,1≤x∧x≤X.S.list.length∧(X.S.tr x).len≤256)∧KnOk X.S K∧X.S.list.length+10000<X.S.most∧X.S.most≤1048576):=Lib.hid ⟨hX,hn,hn2,hid,hK,hroom,hmost⟩
 have HRW:Hid (∀ (i a:Nat),ids[i]?=some a→∃ g,ad=some ⟨g,0,none⟩∧∀ w,(rowsA encI 26 1 (.slice ad n c) ids).ho w→w.cell? ⟨g,i,none⟩=some (.int .i64 (a:Nat))):=Lib.hid fun i a hi=>by
  obtain ⟨g,c8,e1,_⟩:=rowsA_cases (HK.ho (rowsA encI 26 1 (.slice ad n c) ids) (by simp)) (by have:=gelt hi;omega)
  injection e1 with e1 _ _
  refine ⟨g,e1,fun w h=>?_⟩
  rw [e1] at h
  have:=rowsA_cell h encI_len hi (j:=0) rfl
  simpa using this
 clear hX hn hid hK hroom hmost h hd hr
 go_enter Tryz.func44,Tryz.ntmps44
 go_wp2_with (first|refine sL ?_|(refine sS ?_;clear H;intros;rename_i H)|((with_reducible refine isMkRoom ?_);refine AtMkRoom.room encI H rfl rfl rfl n rfl rfl rfl rfl encI_len (by omega) (by omega) ?_;clear H;intro b5 _ H;simp only [Act.put,puA,puB,puC]))
 go_loopg [6,16] n (fun m v1 v2 wr=>AlRel X N w bm mp n ids m v1 v2 wr)
 case atStart=>exact ⟨0,X,K,[],rfl,Nat.zero_le _,rfl,⟨⟨rfl,by simp⟩,HIN.out.2.2.2.2.1,.refl _,HIN.out.1,by omega⟩,H.picks (.cons (A:=pA X) pk (.cons (A:=blk bm (.cells #[.pointer (some ⟨X.p,0,none⟩),.map (some mp)] 138)) pk (.cons (A:=mapA Tryz.prog 26 mp (K.map encK)) pk (.cons (A:=rowsA encI 26 1 (.slice (some ⟨b5,0,none⟩) 0 n) []) pk .nil))))⟩
 case round =>
  clear H
  obtain ⟨i,X2,K2,out,rfl,hik,rfl,hrel,H⟩:=hrel
  have HRL:=Lib.hid hrel
  obtain ⟨ad2,c2,rfl,_⟩:=rowsA_shape (H.get (A:=rowsA encI 26 1 _ out) pk)
  by_cases hlt:i<n
  ·obtain ⟨x,hx⟩:∃ a,ids[i]?=some a:=⟨_,List.getElem?_eq_getElem (by rw [HIN.out.2.1];exact hlt)⟩
   obtain ⟨g,rfl,hcell⟩:=HRW.out i x hx
   have d5:decide ((i:Int)<(n:Int))=true:=by simp;omega
   have d5n:decide (i<n)=true:=by simp;omega
   have HC:=Lib.hid hcell
   have hol:out.length≤16:=by have:=hrel.1.1;rw [List.length_take] at this;omega
   have HOF:Hid (∀ w,((pA X2).sep ((blk bm (.cells #[.pointer (some ⟨X.p,0,none⟩),.map (some mp)] 138)).sep (mapA Tryz.prog 26 mp (K2.map encK)))).ho w→(((pA X2).sep ((blk bm (.cells #[.pointer (some ⟨X.p,0,none⟩),.map (some mp)] 138)).sep (mapA Tryz.prog 26 mp (K2.map encK)))).sep deA).ho w→Calls Tryz.prog 35 #[.pointer (some ⟨bm,0,none⟩),.int .i64 (x:Nat)] w fun e w'=>∃ (X':Px) (K':List (Nat×Nat)) (y:Nat),e=.returned (.tuple #[.int .i64 y,.nilIface])∧X2.Ext X'∧PxOk X'∧KnOk X'.S K'∧IdIs X'.S y ((X.S.tr x).txt.map Tr.leaf)∧X'.S.list.length≤X2.S.list.length+512∧St w ((pA X2).sep ((blk bm (.cells #[.pointer (some ⟨X.p,0,none⟩),.map (some mp)] 138)).sep (mapA Tryz.prog 26 mp (K2.map encK)))).fp [pA X',blk bm (.cells #[.pointer (some ⟨X.p,0,none⟩),.map (some mp)] 138),mapA Tryz.prog 26 mp (K'.map encK)] w'):=Lib.hid fun w h hd=>by
    have h1:=HRL.out
    have h2:=HIN.out
    have h3:=h2.2.2.2.1 x (List.mem_of_getElem? hx)
    have hm:X2.S.most=X.S.most:=h1.2.2.1.le.1
    have hl:=h1.2.2.1.le.len
    have ht:=h1.2.2.1.le.tr h2.1.ok h3.1 h3.2.1
    rw [← h1.2.2.1.p] at h hd
    have:=of_c (X:=X2) (bm:=bm) (mp:=mp) h1.2.2.2.1 h3.1 (by omega) h1.2.1 (L9:=256) (Nat.le_refl _) (by rw [ht];exact h3.2.2) (by omega) (by omega) w h hd
    rw [ht,h1.2.2.1.p] at this
    exact this
   have HX9:=Lib.hid hx
   clear hrel hcell hx
   go_wp2_with (first|refine sL ?_|(refine sS ?_;clear H;intros;rename_i H)|(go_at_call 35;with_reducible refine Calls.mono (HOF.out _ ((St.join3 (H.pick3 (A:=pA X2) (B:=blk bm (.cells #[.pointer (some ⟨X.p,0,none⟩),.map (some mp)] 138)) (C:=mapA Tryz.prog 26 mp (K2.map encK)) pk pk pk)).ho _ List.mem_cons_self) ((St.join3 (H.pick3 (A:=pA X2) (B:=blk bm (.cells #[.pointer (some ⟨X.p,0,none⟩),.map (some mp)] 138)) (C:=mapA Tryz.prog 26 mp (K2.map encK)) pk pk pk)).sepK HK .here pk)) ?_;rintro e9 wc ⟨X3,K3,y3,rfl,y1,y2,y4,y5,y6,hb⟩;have HZ:=Lib.hid (And.intro y1 (And.intro y2 (And.intro y4 (And.intro y5 y6))));clear y1 y2 y4 y5 y6;replace H:=(St.join3 (H.pick3 (A:=pA X2) (B:=blk bm (.cells #[.pointer (some ⟨X.p,0,none⟩),.map (some mp)] 138)) (C:=mapA Tryz.prog 26 mp (K2.map encK)) pk pk pk)).call hb;clear hb;simp only [List.cons_append,List.nil_append] at H)|((with_reducible refine isSlice ?_);refine AtSlice.one H rfl rfl rfl rfl rfl rfl rfl rfl rfl ?_;clear H;intro b8 _ H;simp only [Act.put,puA,puB,puC])|((with_reducible refine isAppend ?_);refine AtAppend.go (enc:=encI) H rfl rfl rfl rfl rfl (by decide) (by decide) rfl (xs:=out) pk rfl (H.at pk) [y3] rfl (by simp [flatG,encI]) encI_len encI_one (by simp;omega) ?_;clear H;intro ad9 cp9 _ H;simp only [Act.put,puA,puB,puC]))
   go_roundg (n-(i+1))
   case measure=>omega
   case rel =>
    have h1:=HRL.out
    have h2:=HZ.out
    refine ⟨i+1,X3,K3,out++[y3],rfl,by omega,by go_num,⟨⟨?_,fun k a b ha hb=>?_⟩,h2.2.2.1,h1.2.2.1.trans h2.1,h2.2.1,?_⟩,H.picks (.cons (A:=pA X3) pk (.cons (A:=blk bm (.cells #[.pointer (some ⟨X.p,0,none⟩),.map (some mp)] 138)) pk (.cons (A:=mapA Tryz.prog 26 mp (K3.map encK)) pk (.cons (A:=rowsA encI 26 1 (.slice ad9 (out.length+1) cp9) (out++[y3])) pk .nil))))⟩
    ·have:=h1.1.1
     rw [List.take_add_one,HX9.out]
     simp [← this]
    ·have hl:=h1.1.1
     rw [List.take_add_one,HX9.out] at ha
     by_cases hk:k<out.length
     ·rw [List.getElem?_append_left hk] at hb
      rw [Option.toList_some,List.getElem?_append_left (by omega)] at ha
      exact (h1.1.2 k a b ha hb).le h1.2.2.2.1.ok h2.1.le
     ·have hk2:k=out.length:=by have:=gelt hb;simp at this;omega
      subst hk2
      rw [Option.toList_some,← hl] at ha
      simp at ha hb
      subst ha hb
      exact h2.2.2.2.1
    ·rw [Nat.add_mul,Nat.one_mul]
     omega
  ·have d5:decide ((i:Int)<(n:Int))=false:=by simp;omega
   have d5n:decide (i<n)=false:=by simp;omega
   have hin:n=i:=by omega
   subst hin
   clear hrel
   go_wp2_with (first|refine sL ?_|(refine sS ?_;clear H;intros;rename_i H))
   go_ret2
   have h1:=HRL.out
   have hq9:ids.take n=ids:=List.take_of_length_le (by rw [HIN.out.2.1];exact Nat.le_refl _)
   rw [hq9] at h1
   exact ⟨X2,_,out,rfl,h1.2.2.1,h1.2.2.2.1,h1.1,H.picks (.cons (A:=pA X2) pk (.cons (A:=rowsA encI 26 1 (.slice ad2 out.length c2) out) pk .nil))⟩
end
section
open Go.RowKit Go.Maps
attribute [local go_sem] InGr strB_size
theorem parser_m {X:Px} {bm mp:Nat} (w:World) (h:(blk bm (.cells #[.pointer (some ⟨X.p,0,none⟩),.map (some mp)] 138)).ho w):Calls Tryz.prog 69 #[.pointer (some ⟨bm,0,none⟩)] w fun e w'=>e=.returned (.pointer (some ⟨X.p,0,none⟩))∧w'=w:=by
 have H:=St.nil w []
 have HC:Hid (w.cell? ⟨bm,0,none⟩=some (.pointer (some ⟨X.p,0,none⟩))):=Lib.hid (by rw [blk_ho] at h;rw [cell_of_row w _ 0 _ _ _ h];rfl)
 clear h
 go_enter Tryz.func69,Tryz.ntmps69
 go_wp2_with (first|refine sL ?_|(refine sS ?_;clear H;intros;rename_i H)|((with_reducible refine isLoad ?_);refine AtLoad.cel rfl rfl rfl rfl HC.out ?_;simp only [Act.put,puA,puB,puC]))
 go_ret
 exact ⟨rfl,rfl⟩
theorem results_tmp4 {fn:Func} {t u v x:Tmp} (h:fn.results=#[.tmp t,.tmp u,.tmp v,.tmp x]) (tmps:Array Value) (P:Program) (w:World) :
  (results fn tmps).run P w=.ok (.tuple #[tmps.getD t undef,tmps.getD u undef,tmps.getD v undef,tmps.getD x undef]) w:=by
 simp [results,h]
abbrev StartR (n:Nat) (w:World) (e:Ending) (w':World):Prop :=
 ∃ (X:Px) (bm mp:Nat),e=.returned (.tuple #[.pointer (some ⟨X.s,0,none⟩),.pointer (some ⟨X.p,0,none⟩),.pointer (some ⟨bm,0,none⟩),.bool true])∧PxOk X∧X.S=⟨n,[]⟩∧St w [] [pA X,blk bm (.cells #[.pointer (some ⟨X.p,0,none⟩),.map (some mp)] 138),mapA Tryz.prog 26 mp (([]:List (Nat×Nat)).map encK)] w'
theorem start_c (n:Nat) (hn:n≤1048576) (z:Int) (hz:z=n) (w:World) :
  Calls Tryz.prog 33 #[.int .i64 z] w (StartR n w):=by
 subst hz
 have H:=St.nil w []
 have HNW:Hid (∀ w,Calls Tryz.prog 55 #[.int .i64 (n:Nat)] w fun e w'=>∃ p m,e=.returned (.pointer (some ⟨p,0,none⟩))∧St w [] [stoA p (.slice none 0 0) m ⟨n,[]⟩] w'):=Lib.hid fun w=>new_c n hn _ rfl w
 have HSN:Hid (∀ ps pm w,(stoA ps (.slice none 0 0) pm ⟨n,[]⟩).ho w→Calls Tryz.prog 54 #[.pointer (some ⟨ps,0,none⟩)] w fun e w'=>∃ X:Px,X.s=ps∧X.S=⟨n,[]⟩∧PxOk X∧e=.returned (.pointer (some ⟨X.p,0,none⟩))∧St w (stoA ps (.slice none 0 0) pm ⟨n,[]⟩).fp [pA X] w'):=Lib.hid fun ps pm w h=>snew_c ⟨hn,by simp,fun i j x y h=>by simp at h,fun i x h=>by simp at h⟩ w h
 have HCN:Hid (∀ (X:Px) w,Calls Tryz.prog 36 #[.pointer (some ⟨X.p,0,none⟩)] w fun e w'=>∃ bm mp:Nat,e=.returned (.pointer (some ⟨bm,0,none⟩))∧St w [] [blk bm (.cells #[.pointer (some ⟨X.p,0,none⟩),.map (some mp)] 138),mapA Tryz.prog 26 mp (([]:List (Nat×Nat)).map encK)] w'):=Lib.hid fun X w=>cnew_c w
 have HPM:Hid (∀ (X:Px) (bm mp:Nat) w,(blk bm (.cells #[.pointer (some ⟨X.p,0,none⟩),.map (some mp)] 138)).ho w→Calls Tryz.prog 69 #[.pointer (some ⟨bm,0,none⟩)] w fun e w'=>e=.returned (.pointer (some ⟨X.p,0,none⟩))∧w'=w):=Lib.hid fun X bm mp w h=>parser_m w h
 have heq:∀ (p:Nat) w,(binOp .eql 25 (.pointer (some ⟨p,0,none⟩)) (.pointer (some ⟨p,0,none⟩))).run Tryz.prog w=.ok (.bool true) w:=fun p w=>by
  obtain ⟨j,hj⟩:=Option.isSome_iff_exists.1 (show (Tryz.prog.info? 119).isSome=true by kernel_rfl)
  exact run_eql_ptr_same w _ (by kernel_rfl) hj
 unfold StartR
 go_enter Tryz.func33,Tryz.ntmps33
 go_wp2_with (first|refine sL ?_|(refine sS ?_;clear H;intros;rename_i H)|(go_at_call 55;with_reducible refine Calls.mono (HNW.out _) ?_;rintro e9 wc ⟨ps,pm,rfl,hb⟩;replace H:=H.call0 hb;clear hb;simp only [List.cons_append,List.nil_append] at H)|(go_at_call 54;with_reducible refine Calls.mono (HSN.out _ _ _ (H.get (A:=stoA ps (.slice none 0 0) pm ⟨n,[]⟩) pk)) ?_;rintro e9 wc ⟨X,hxs,hxS,hxo,rfl,hb⟩;have HXN:=Lib.hid (And.intro hxS hxo);clear hxS hxo;replace H:=(H.pick (A:=stoA ps (.slice none 0 0) pm ⟨n,[]⟩) pk).call hb;clear hb;subst hxs;simp only [List.cons_append,List.nil_append] at H)|(go_at_call 36;with_reducible refine Calls.mono (HCN.out X _) ?_;rintro e9 wc ⟨bm,mp,rfl,hb⟩;replace H:=H.call0 hb;clear hb;simp only [List.cons_append,List.nil_append] at H)|(go_at_call 69;with_reducible refine same (HPM.out X bm mp _ (H.get (A:=blk bm (.cells #[.pointer (some ⟨X.p,0,none⟩),.map (some mp)] 138)) pk)) ?_))
 (try simp only [Exit.inBlock,Exit.then])
 refine bodyPost_ret (results_tmp4 rfl _ _ _) rfl ?_
 exact ⟨X,bm,mp,rfl,HXN.out.2,HXN.out.1,H.picks (.cons (A:=pA X) pk (.cons (A:=blk bm (.cells #[.pointer (some ⟨X.p,0,none⟩),.map (some mp)] 138)) pk (.cons (A:=mapA Tryz.prog 26 mp (([]:List (Nat×Nat)).map encK)) pk .nil)))⟩
end
section
open Go.RowKit Go.Maps
attribute [local go_sem] InGr strB_size
abbrev RPost (X:Px) (P:Sto→Nat→Prop) (M:List Nat) (w:World) (e:Ending) (w':World):Prop :=
 ∃ (X':Px) (id:Nat),e=.returned (.tuple #[.int .i64 id,.nilIface])∧X.Ext X'∧PxOk X'∧X'.S.list.length≤X.S.list.length+1∧P X'.S id∧St w M [pA X'] w'
theorem mpost_room {X:Px} {f:FuncId} {args:Array Value} {t:Tr} {P:Sto→Nat→Prop} {M:List Nat} {w:World} (hr:X.S.list.length<X.S.most) (hP:∀ S id,Den S id t→P S id) (h:Calls Tryz.prog f args w (MPost X t M w)):Calls Tryz.prog f args w (RPost X P M w):=by
 refine h.mono ?_
 rintro e w' ⟨X',id,c,rfl,h1,h2,h3,h4,h5⟩
 rcases h4 with ⟨rfl,h4⟩|⟨_,_,_,h4⟩
 ·exact ⟨X',id,rfl,h1,h2,h3,hP _ _ h4,h5⟩
 ·omega
theorem made_pair0 {S:Sto} (h:S.Ok) {r:Nat} {u:Tr} (hr:Den S r u):Made S u (S.pair 0 r)∧Made S u (S.pair r 0):=by
 obtain ⟨j,y,rfl,hy,rfl⟩:=den_get hr
 have h0:∃ x,enAt S 0=some x:=⟨_,rfl⟩
 obtain ⟨x,hx⟩:=h0
 have hj:enAt S (j+1)=some y:=by simp [enAt,hy]
 have e1:S.pair 0 (j+1)=((j+1,none),S):=by
  unfold Sto.pair
  simp [hx,hj]
 have e2:S.pair (j+1) 0=((j+1,none),S):=by
  unfold Sto.pair
  simp [hx,hj]
 rw [e1,e2]
 exact ⟨⟨.refl S,h,by simp,.inl ⟨rfl,hr⟩⟩,⟨.refl S,h,by simp,.inl ⟨rfl,hr⟩⟩⟩
def TxtIs (S:Sto) (id:Nat) (ts:List Nat):Prop:=(ts=[]∧id=0)∨∃ t,Den S id t∧t.txt=ts
theorem TxtIs.le {S S':Sto} {id:Nat} {ts:List Nat} (h:TxtIs S id ts) (hS:S.Ok) (hl:S.Le S'):TxtIs S' id ts:=by
 rcases h with h|⟨t,h1,h2⟩
 ·exact .inl h
 ·exact .inr ⟨t,h1.le hS hl,h2⟩
theorem pair_t {X:Px} {l r:Nat} {p q:List Nat} (hl:TxtIs X.S l p) (hr:TxtIs X.S r q) (hne:p≠[]∨q≠[]) (hlen:p.length+q.length≤maxT) (hX:PxOk X) (hroom:X.S.list.length<X.S.most) (w:World) (h:(pA X).ho w) :
  Calls Tryz.prog 43 #[.pointer (some ⟨X.s,0,none⟩),.int .i64 l,.int .i64 r] w (RPost X (fun S id=>TxtIs S id (p++q)) (pA X).fp w):=by
 rcases hl with ⟨rfl,rfl⟩|⟨t,hl,rfl⟩
 ·rcases hr with ⟨rfl,rfl⟩|⟨u,hr,rfl⟩
  ·simp at hne
  ·exact mpost_room (t:=u) hroom (fun S id h=>.inr ⟨u,h,rfl⟩) (made_in hX h (made_pair0 hX.ok hr).1 fun h=>pair_c hX.ok 0 r (Nat.zero_le _) hr.2.1 w h)
 ·rcases hr with ⟨rfl,rfl⟩|⟨u,hr,rfl⟩
  ·exact mpost_room (t:=t) hroom (fun S id h=>.inr ⟨t,h,by simp⟩) (made_in hX h (made_pair0 hX.ok hl).2 fun h=>pair_c hX.ok l 0 hl.2.1 (Nat.zero_le _) w h)
  ·rw [Tr.txt_len,Tr.txt_len] at hlen
   exact mpost_room (t:=.pair t u) hroom (fun S id h=>.inr ⟨_,h,by simp [Tr.txt]⟩) (pair_p hl hr hlen hX w h)
theorem al_canon:Canon (.pow (.leaf 97) 3)∧(Tr.pow (.leaf 97) 3).lay 0=[.leaf 97,.leaf 97,.leaf 97]:=by
 have h:=canon_of (s:=[.leaf 97,.leaf 97,.leaf 97]) (m:=1) (t:=.pow (.leaf 97) 3) (fun t ht=>⟨97,by simpa using ht⟩) (by decide)
 exact ⟨h.1,h.2.1⟩
theorem al_rule {S:Sto} (hS:S.Ok) {x a c:Nat} (hx:IdIs S x ([97,97,97].map Tr.leaf)) (ha:Den S a (.leaf 97)) (hc:Den S c (.pair (.pair (.leaf 97) (.leaf 97)) (.leaf 97))):x≠c∧∃ i e,x=i+1∧S.list[i]?=some e∧e.r=⟨3,0,a,0,3⟩:=by
 rcases hx with ⟨h,_⟩|⟨T,h1,h2,h3⟩
 ·simp at h
 ·have hT:T=.pow (.leaf 97) 3:=canon_uniq h2 al_canon.1 (h3.trans (by rw [al_canon.2];rfl))
  subst hT
  refine ⟨fun e=>by subst e;exact absurd (h1.tr_inj hc) (by simp),?_⟩
  obtain ⟨i,e,rfl,he,ht⟩:=den_get h1
  refine ⟨i,e,rfl,he,?_⟩
  cases rule_of hS he with
  |letter b hb hr hw ht2=>rw [ht] at ht2;simp at ht2
  |pair l r y z hl hr hy hz hr2 hw hs ht2=>rw [ht] at ht2;simp at ht2
  |pow l k y hl hy hk hr hw hs ht2 =>
   rw [ht] at ht2
   injection ht2 with q1 q2
   have hd:Den S (l+1) (.leaf 97):=⟨by omega,by have:=gelt hy;omega,q1.symm⟩
   rw [hr,hd.id_inj hS ha,← q2]
theorem alive_c (w:World) (hde:deA.ho w):Calls Tryz.prog 31 #[] w fun e w'=>e=.returned (.bool true)∧St w [] [] w':=by
 have H:=St.nil w []
 have HK:Ks w [] [deA]:=Ks.one hde
 clear hde
 have HST:Hid (∀ w,Calls Tryz.prog 33 #[.int .i64 100] w (StartR 100 w)):=Lib.hid fun w=>start_c 100 (by decide) _ rfl w
 go_enter Tryz.func31,Tryz.ntmps31
 go_wp2_with (first|refine sL ?_|(refine sS ?_;clear H;intros;rename_i H)|(go_at_call 33;with_reducible refine Calls.mono (HST.out _) ?_;rintro e9 wc ⟨X,bm,mp,rfl,y1,y2,hb⟩;have HX:=Lib.hid (And.intro y1 y2);clear y1 y2;replace H:=H.call0 hb;clear hb;simp only [List.cons_append,List.nil_append] at H))
 have HL1:Hid (∀ w,(pA X).ho w→Calls Tryz.prog 42 #[.pointer (some ⟨X.s,0,none⟩),.int .u8 97] w (RPost X (fun S id=>Den S id (.leaf 97)) (pA X).fp w)):=Lib.hid fun w h=>mpost_room (by rw [HX.out.2];simp) (fun S id h=>h) (letter_p 97 (by decide) HX.out.1 w h)
 go_wp2_with (first|refine sL ?_|(refine sS ?_;clear H;intros;rename_i H)|(go_at_call 42;with_reducible refine Calls.mono (HL1.out _ (H.get (A:=pA X) pk)) ?_;rintro e9 wc ⟨X1,a1,rfl,y1,y2,y3,y4,hb⟩;have HX1:=Lib.hid (And.intro y1 (And.intro y2 (And.intro y3 y4)));clear y1 y2 y3 y4;replace H:=(H.pick (A:=pA X) pk).call hb;clear hb;simp only [List.cons_append,List.nil_append] at H))
 have HY1:Hid (X1.s=X.s∧X1.p=X.p∧PxOk X1∧X1.S.most=100∧X1.S.list.length≤1∧Den X1.S a1 (.leaf 97)):=Lib.hid (by
  obtain ⟨h1,h2,h3,h4⟩:=HX1.out
  have h5:=HX.out.2
  rw [h5] at h3
  exact ⟨h1.s,h1.p,h2,by rw [h1.le.1,h5],h3,h4⟩)
 clear HX HX1 HL1
 have HL2:Hid (∀ w,(pA X1).ho w→Calls Tryz.prog 43 #[.pointer (some ⟨X.s,0,none⟩),.int .i64 a1,.int .i64 a1] w (RPost X1 (fun S id=>Den S id (.pair (.leaf 97) (.leaf 97))) (pA X1).fp w)):=Lib.hid fun w h=>by
  obtain ⟨h1,h2,h3,h4,h5,h6⟩:=HY1.out
  rw [← h1]
  exact mpost_room (by omega) (fun S id h=>h) (pair_p h6 h6 (by simp [Tr.len,maxT]) h3 w h)
 go_wp2_with (first|refine sL ?_|(refine sS ?_;clear H;intros;rename_i H)|(go_at_call 43;with_reducible refine Calls.mono (HL2.out _ (H.get (A:=pA X1) pk)) ?_;rintro e9 wc ⟨X2,a2,rfl,y1,y2,y3,y4,hb⟩;have HX2:=Lib.hid (And.intro y1 (And.intro y2 (And.intro y3 y4)));clear y1 y2 y3 y4;replace H:=(H.pick (A:=pA X1) pk).call hb;clear hb;simp only [List.cons_append,List.nil_append] at H))
 have HY2:Hid (X2.s=X.s∧X2.p=X.p∧PxOk X2∧X2.S.most=100∧X2.S.list.length≤2∧Den X2.S a1 (.leaf 97)∧Den X2.S a2 (.pair (.leaf 97) (.leaf 97))):=Lib.hid (by
  obtain ⟨h1,h2,h3,h4⟩:=HX2.out
  obtain ⟨g1,g2,g3,g4,g5,g6⟩:=HY1.out
  exact ⟨h1.s.trans g1,h1.p.trans g2,h2,by rw [h1.le.1,g4],by omega,g6.le g3.ok h1.le,h4⟩)
 clear HX2 HY1 HL2
 have HL3:Hid (∀ w,(pA X2).ho w→Calls Tryz.prog 43 #[.pointer (some ⟨X.s,0,none⟩),.int .i64 a2,.int .i64 a1] w (RPost X2 (fun S id=>Den S id (.pair (.pair (.leaf 97) (.leaf 97)) (.leaf 97))) (pA X2).fp w)):=Lib.hid fun w h=>by
  obtain ⟨h1,h2,h3,h4,h5,h6,h7⟩:=HY2.out
  rw [← h1]
  exact mpost_room (by omega) (fun S id h=>h) (pair_p h7 h6 (by simp [Tr.len,maxT]) h3 w h)
 go_wp2_with (first|refine sL ?_|(refine sS ?_;clear H;intros;rename_i H)|(go_at_call 43;with_reducible refine Calls.mono (HL3.out _ (H.get (A:=pA X2) pk)) ?_;rintro e9 wc ⟨X3,a3,rfl,y1,y2,y3,y4,hb⟩;have HX3:=Lib.hid (And.intro y1 (And.intro y2 (And.intro y3 y4)));clear y1 y2 y3 y4;replace H:=(H.pick (A:=pA X2) pk).call hb;clear hb;simp only [List.cons_append,List.nil_append] at H))
 have HY3:Hid (X3.s=X.s∧X3.p=X.p∧PxOk X3∧X3.S.most=100∧X3.S.list.length≤3∧Den X3.S a1 (.leaf 97)∧Den X3.S a3 (.pair (.pair (.leaf 97) (.leaf 97)) (.leaf 97))):=Lib.hid (by
  obtain ⟨h1,h2,h3,h4⟩:=HX3.out
  obtain ⟨g1,g2,g3,g4,g5,g6,g7⟩:=HY2.out
  exact ⟨h1.s.trans g1,h1.p.trans g2,h2,by rw [h1.le.1,g4],by omega,g6.le g3.ok h1.le,h4⟩)
 clear HX3 HY2 HL3
 have HOF:Hid (∀ w,((pA X3).sep ((blk bm (.cells #[.pointer (some ⟨X.p,0,none⟩),.map (some mp)] 138)).sep (mapA Tryz.prog 26 mp (([]:List (Nat×Nat)).map encK)))).ho w→(((pA X3).sep ((blk bm (.cells #[.pointer (some ⟨X.p,0,none⟩),.map (some mp)] 138)).sep (mapA Tryz.prog 26 mp (([]:List (Nat×Nat)).map encK)))).sep deA).ho w→Calls Tryz.prog 35 #[.pointer (some ⟨bm,0,none⟩),.int .i64 (a3:Nat)] w fun e w'=>∃ (X':Px) (K':List (Nat×Nat)) (y:Nat),e=.returned (.tuple #[.int .i64 y,.nilIface])∧X3.Ext X'∧PxOk X'∧KnOk X'.S K'∧IdIs X'.S y ([97,97,97].map Tr.leaf)∧X'.S.list.length≤X3.S.list.length+6∧St w ((pA X3).sep ((blk bm (.cells #[.pointer (some ⟨X.p,0,none⟩),.map (some mp)] 138)).sep (mapA Tryz.prog 26 mp (([]:List (Nat×Nat)).map encK)))).fp [pA X',blk bm (.cells #[.pointer (some ⟨X.p,0,none⟩),.map (some mp)] 138),mapA Tryz.prog 26 mp (K'.map encK)] w'):=Lib.hid fun w h hd=>by
  obtain ⟨h1,h2,h3,h4,h5,h6,h7⟩:=HY3.out
  have ht:X3.S.tr a3=_:=h7.2.2
  rw [← h2] at h hd
  have:=of_c (X:=X3) (bm:=bm) (mp:=mp) (L9:=3) h3 h7.1 h7.2.1 (fun q hq=>by simp at hq) (by decide) (by rw [ht];decide) (by omega) (by omega) w h hd
  rw [ht,h2] at this
  exact this
 go_wp2_with (first|refine sL ?_|(refine sS ?_;clear H;intros;rename_i H)|(go_at_call 35;with_reducible refine Calls.mono (HOF.out _ ((St.join3 (H.pick3 (A:=pA X3) (B:=blk bm (.cells #[.pointer (some ⟨X.p,0,none⟩),.map (some mp)] 138)) (C:=mapA Tryz.prog 26 mp (([]:List (Nat×Nat)).map encK)) pk pk pk)).ho _ List.mem_cons_self) ((St.join3 (H.pick3 (A:=pA X3) (B:=blk bm (.cells #[.pointer (some ⟨X.p,0,none⟩),.map (some mp)] 138)) (C:=mapA Tryz.prog 26 mp (([]:List (Nat×Nat)).map encK)) pk pk pk)).sepK HK .here pk)) ?_;rintro e9 wc ⟨X4,K4,y4,rfl,y1,y2,y3,y5,y6,hb⟩;have HZ:=Lib.hid (And.intro y1 (And.intro y2 (And.intro y5 y6)));clear y1 y2 y3 y5 y6;replace H:=(St.join3 (H.pick3 (A:=pA X3) (B:=blk bm (.cells #[.pointer (some ⟨X.p,0,none⟩),.map (some mp)] 138)) (C:=mapA Tryz.prog 26 mp (([]:List (Nat×Nat)).map encK)) pk pk pk)).call hb;clear hb;simp only [List.cons_append,List.nil_append] at H))
 obtain ⟨hne,i4,en,hi4,hen,her⟩:=al_rule HZ.out.2.1.ok HZ.out.2.2.1 (HY3.out.2.2.2.2.2.1.le HY3.out.2.2.1.ok HZ.out.1.le) (HY3.out.2.2.2.2.2.2.le HY3.out.2.2.1.ok HZ.out.1.le)
 have HRU:Hid (∀ w,(pA X4).ho w→Calls Tryz.prog 68 #[.pointer (some ⟨X.s,0,none⟩),.int .i64 y4] w fun e w'=>e=.returned (.tuple #[.agg #[.int .i64 3,.int .u8 0,.int .i64 a1,.int .i64 0,.int .i64 3],.nilIface])∧St w [] [] w'):=Lib.hid fun w h=>by
  have:=rule_c hen y4 (by omega) w (pA_sto h)
  rw [her] at this
  rw [← HY3.out.1,← HZ.out.1.s]
  exact this
 have d1:((y4:Int) != (a3:Int))=true:=by simp;omega
 clear HY3 HZ HOF hne hi4 hen her
 go_wp2_with (first|refine sL ?_|(refine sS ?_;clear H;intros;rename_i H)|(go_at_call 68;with_reducible refine Calls.mono (HRU.out _ (H.get (A:=pA X4) pk)) ?_;rintro e9 wc ⟨rfl,hb⟩;replace H:=H.grew hb.below;clear hb))
 go_ret
 exact ⟨rfl,H.picks .nil⟩
end
section
open Go.RowKit Go.Maps
attribute [local go_sem] InGr
section
variable {ops:Array Oper} {a:Act} {w w0:World} {M:List Nat} {L R:List As} {o1:Oper} {Rr:Value→World→Prop}
theorem run_append_nil {t e ty:TypeId} (hte:sliceO t=some e) {z:Value} {k bytes:Nat} (hi:infoO e=some (z,k,bytes)) {n c c':Nat} {ad ad':Option Addr} (hn:n≤c) {w:World}:(Builtin.append_ #[t,t] ty #[.slice ad n c,.slice ad' 0 c']).run Tryz.prog w=.ok (.slice ad n c) w:=by
 obtain ⟨i,h2,h3,h4,h5⟩:=infoO_ok hi
 have hu:=sliceO_ok hte
 cases ad with
 |none=>cases ad' with
  |none=>simp [Builtin.append_,run_underlying hu,sizeOf,typeInfo,h2,Builtin.lenOf,Builtin.firstCells,loadCells,loadCellsFrom,storeCells,hn]
  |some x=>simp [Builtin.append_,run_underlying hu,sizeOf,typeInfo,h2,Builtin.lenOf,Builtin.firstCells,loadCells,loadCellsFrom,storeCells,hn]
 |some y=>cases ad' with
  |none=>simp [Builtin.append_,run_underlying hu,sizeOf,typeInfo,h2,Builtin.lenOf,Builtin.firstCells,loadCells,loadCellsFrom,storeCells,hn]
  |some x=>simp [Builtin.append_,run_underlying hu,sizeOf,typeInfo,h2,Builtin.lenOf,Builtin.firstCells,loadCells,loadCellsFrom,storeCells,hn]
theorem StStep.appendP {α:Type} {enc:α→List Value} {t e:TypeId} {x y:Operand} (hw:Region.wanted o1 (yielded ops a.tmps)=true) (ho:o1.op=.call ⟨.builtin .append,#[x,y],#[t,t]⟩) (hte:sliceO t=some e) {z:Value} {k bytes:Nat} (hi:infoO e=some (z,k,bytes)) (hz:z.cells.size=k) (hk0:0<k) (hb0:0<bytes)
  {v u:Value} {xs ys:List α} (hx:evalO a x=some v) (hy:evalO a y=some u) (H:St w0 M (rowsA enc e k v xs::L) w) {P:PoolT} (hu:RowIn P enc k u ys) (hpo:(poolA P).ho w) (hk:∀ x,(enc x).length=k) (h1:∀ x,∀ u∈enc x,u.oneCell'=true) (hb:(xs.length+ys.length)*bytes≤140737488355328) {n3:Nat} (hn:xs.length+ys.length=n3)
  (h:∀ ad cp w',St w0 M (rowsA enc e k (.slice ad n3 cp) (xs++ys)::L) w'→Rr (.slice ad n3 cp) w'):StStep Tryz.prog ops o1 a w Rr:=by
 rcases Nat.eq_zero_or_pos ys.length with h0|h0
 ·obtain rfl:=List.eq_nil_of_length_eq_zero h0
  obtain ⟨ad',c',rfl,_⟩:=hu
  obtain ⟨ad,c,rfl,hc⟩:∃ ad c,v=.slice ad xs.length c∧xs.length≤c:=by
   rcases Nat.eq_zero_or_pos xs.length with h1|h1
   ·obtain ⟨ad,c,e,_⟩:=rowsA_shape (H.ho _ List.mem_cons_self)
    exact ⟨ad,c,e,by omega⟩
   ·obtain ⟨g,c,e,q,_⟩:=rowsA_cases (H.ho _ List.mem_cons_self) h1
    exact ⟨_,c,e,q⟩
  simp only [List.length_nil,Nat.add_zero] at hn
  rw [hn] at H hx hc
  have h:=h ad c w (by rw [List.append_nil];exact H)
  exact StStep.val hw (by unfold execOp;simp only [ho,resolve,invoke,builtin,Sem.run_bind,Sem.run_pure,Result.andThen_ok,List.map_toArray,List.map_cons,List.map_nil,evalO_eq hx,evalO_eq hy,List.length_nil,run_append_nil hte hi hc]) h
 ·obtain ⟨v',w',hr,hst⟩:=run_append_in (ty:=o1.type) hte hi hz hk0 hb0 (H.ho _ List.mem_cons_self) hu hpo hk h1 hb h0
  obtain ⟨ad,cp,rfl,_⟩:=rowsA_shape (hst.ho _ List.mem_cons_self)
  have hst2:=H.call hst
  simp only [List.length_append,hn] at hst2 hr
  exact StStep.val hw (by unfold execOp;simp only [ho,resolve,invoke,builtin,Sem.run_bind,Sem.run_pure,Result.andThen_ok,List.map_toArray,List.map_cons,List.map_nil,evalO_eq hx,evalO_eq hy,hr]) (h ad cp w' hst2)
end
end
section
open Go.RowKit Go.Maps
attribute [local go_sem] InGr strB_size
def encZ (x:Int):List Value:=[.int .i64 x]
theorem encZ_len (x:Int):(encZ x).length=1:=rfl
def RowT (S:Sto) (ids:List Nat) (ts:List Nat):Prop:=∃ us:List Tr,DenL S ids us∧(us.map Tr.txt).flatten=ts
theorem RowT.le {S S':Sto} {ids ts:List Nat} (h:RowT S ids ts) (hS:S.Ok) (hl:S.Le S'):RowT S' ids ts:=by
 obtain ⟨us,h1,h2⟩:=h
 exact ⟨us,h1.le hS hl,h2⟩
theorem RowT.snoc {S:Sto} {ids ts:List Nat} {a b:Nat} (h:RowT S ids ts) (ha:Den S a (.leaf b)):RowT S (ids++[a]) (ts++[b]):=by
 obtain ⟨us,h1,h2⟩:=h
 exact ⟨us++[.leaf b],h1.snoc ha,by simp [h2,Tr.txt]⟩
def ShA (X0:Px) (S:Sto) (text:List Nat) (n i l r:Nat) (ids:List Nat):Prop :=
 S.list.length≤4*i∧ids.length=i∧TxtIs S l (text.take i)∧TxtIs S r (text.drop (n-i))∧RowT S ids (text.take i)
def ShR (X0:Px) (w:World) (bm mp n:Nat) (text:List Nat) (m:Nat) (v9 v10 v11 v12:Value) (wr:World):Prop :=
 ∃ (i:Nat) (X:Px) (l r:Nat) (ids:List Nat),m=n-i∧i≤n∧v10=.int .i64 l∧v11=.int .i64 r∧v12=.int .i64 i∧(X0.Ext X∧PxOk X∧ShA X0 X.S text n i l r ids)∧St w [] [pA X,blk bm (.cells #[.pointer (some ⟨X0.p,0,none⟩),.map (some mp)] 138),mapA Tryz.prog 26 mp (([]:List (Nat×Nat)).map encK),rowsA encI 26 1 v9 ids] wr
def ShB (X0:Px) (w:World) (bm mp n:Nat) (text:List Nat) (l r:Nat) (m:Nat) (v9 v21:Value) (wr:World):Prop :=
 ∃ (k:Nat) (X:Px) (ids:List Nat),m=ids.length∧v21=.int .i64 k∧(X0.Ext X∧PxOk X∧X.S.list.length≤4*n+k∧k+ids.length≤n∧1≤ids.length∧TxtIs X.S l text∧TxtIs X.S r text∧RowT X.S ids text)∧St w [] [pA X,blk bm (.cells #[.pointer (some ⟨X0.p,0,none⟩),.map (some mp)] 138),mapA Tryz.prog 26 mp (([]:List (Nat×Nat)).map encK),rowsA encI 26 1 v9 ids] wr
theorem flatI_get (xs:List Nat) (i:Nat):(flatG encI xs)[i]?=xs[i]?.map fun x=>(.int .i64 (x:Nat):Value):=by
 have:flatG encI xs=xs.map fun x=>(.int .i64 (x:Nat):Value):=by
  unfold flatG
  induction xs with
  |nil=>rfl
  |cons x xs ih=>rw [List.flatMap_cons,ih];rfl
 rw [this,List.getElem?_map]
theorem row_seg {P:PoolT} {ad:Option Addr} {c:Nat} {xs:List Nat} (hr:RowIn P encI 1 (.slice ad xs.length c) xs) (hc:xs.length≤c) (l m:Nat) (h2:l+m≤xs.length) :
  ∃ (ad':Option Addr) (P':PoolT),cutA ad c l=ad'∧(∀ w,(poolA P).ho w→(poolA P').ho w)∧RowIn P' encI 1 (.slice ad' m (c-l)) ((xs.drop l).take m):=by
 obtain ⟨ad1,c1,e2,hmx,hr⟩:=hr
 injection e2 with q1 q2 q3
 subst q1 q3
 clear q2
 have hlen:((xs.drop l).take m).length=m:=by simp;omega
 rcases Nat.eq_zero_or_pos m with rfl|hm
 ·exact ⟨_,P,rfl,fun w h=>h,_,_,by rw [hlen],by omega,fun h=>by omega⟩
 ·obtain ⟨g,o,rfl,hp⟩:=hr (by omega)
  have hcl:¬ c=l:=by omega
  have had:cutA (some ⟨g,o,none⟩) c l=some ⟨g,o+l,none⟩:=by
   unfold cutA Addr.add
   rw [if_neg hcl]
   by_cases h0:l=0
   ·subst h0;simp
   ·simp [h0]
  refine ⟨_,[(g,o+l,flatG encI ((xs.drop l).take m))],had,fun w h=>?_,_,_,by rw [hlen],by omega,fun _=>⟨g,o+l,rfl,List.mem_cons_self⟩⟩
  rw [poolA_ho] at h ⊢
  intro x hx
  rcases List.mem_cons.1 hx with rfl|hx
  ·refine ⟨(h _ hp).1,fun j u hj=>?_⟩
   have:=(h _ hp).2 (l+j) u (by
    rw [flatI_get] at hj ⊢
    rw [List.getElem?_take] at hj
    split at hj
    ·rwa [List.getElem?_drop] at hj
    ·simp at hj)
   simpa [Nat.add_assoc] using this
  ·simp at hx
theorem row_split {us:List Tr} {q:Nat} {ta tb:Tr} (h1:us[q]?=some ta) (h2:us[q+1]?=some tb):us=us.take q++ta::tb::us.drop (q+2):=by
 have l2:=gelt h2
 have l1:=gelt h1
 rw [List.getElem?_eq_getElem l1] at h1
 rw [List.getElem?_eq_getElem l2] at h2
 injection h1 with h1
 injection h2 with h2
 rw [← h1,← h2,← List.drop_eq_getElem_cons l2,← List.drop_eq_getElem_cons l1,List.take_append_drop]
theorem row_len {us:List Tr} {q:Nat} {ta tb:Tr} {text:List Nat} (h2:us[q+1]?=some tb) (h1:us[q]?=some ta) (hf:(us.map Tr.txt).flatten=text):ta.len+tb.len≤text.length:=by
 rw [← hf,row_split h1 h2]
 simp [Tr.txt_len]
 omega
attribute [local go_sem] StStep stAt stUpon in
theorem shapes_law {P:PoolT} {text:List Nat} {cuts:List Int} {v1 v2:Value} (r1:RowIn P encT 1 v1 text) (r2:RowIn P encZ 1 v2 cuts) (hb:∀ x∈text,x<256) (w:World) (hde:deA.ho w) (hp:(poolA P).ho w) :
  Calls Tryz.prog 9 #[v1,v2] w fun e w'=>e=.returned (.bool true)∧St w [] [] w':=by
 have H:=St.nil w []
 have HK:Ks w [] [deA,poolA P]:=Ks.two hde hp
 have HAL:Hid (∀ w,deA.ho w→Calls Tryz.prog 31 #[] w fun e w'=>e=.returned (.bool true)∧St w [] [] w'):=Lib.hid fun w h=>alive_c w h
 have HST:Hid (∀ w,Calls Tryz.prog 33 #[.int .i64 1048576] w (StartR 1048576 w)):=Lib.hid fun w=>start_c 1048576 (by decide) _ rfl w
 obtain ⟨n,hn⟩:∃ n,text.length=n:=⟨_,rfl⟩
 obtain ⟨m,hm⟩:∃ m,cuts.length=m:=⟨_,rfl⟩
 obtain ⟨ad1,c1,e1,_⟩:=r1.shape
 obtain ⟨ad2,c2,e2,_⟩:=r2.shape
 rw [hn] at e1
 rw [hm] at e2
 have HIN:Hid (RowIn P encT 1 v1 text∧RowIn P encZ 1 v2 cuts∧(∀ x∈text,x<256)∧text.length=n∧cuts.length=m):=Lib.hid ⟨r1,r2,hb,hn,hm⟩
 clear r1 r2 hb hn hm hde hp
 subst e1 e2
 by_cases hz0:n=0
 ·have e0:((n:Int)==0)=true:=by simp;omega
  go_enter Tryz.func9,Tryz.ntmps9
  go_wp2_with (first|refine sL ?_|(refine sS ?_;clear H;intros;rename_i H)|(go_at_call 31;with_reducible refine Calls.mono (HAL.out _ (H.known HK pk)) ?_;rintro e9 wc ⟨rfl,hb⟩;replace H:=H.grew hb.below;clear hb))
  go_ret
  exact ⟨rfl,H.nix⟩
 by_cases hz1:64<n
 ·have e0:((n:Int)==0)=false:=by simp;omega
  have e1:decide ((64:Int)<(n:Int))=true:=by simp;omega
  have e2:decide (64<n)=true:=by simp;omega
  go_enter Tryz.func9,Tryz.ntmps9
  go_wp2_with (first|refine sL ?_|(refine sS ?_;clear H;intros;rename_i H)|(go_at_call 31;with_reducible refine Calls.mono (HAL.out _ (H.known HK pk)) ?_;rintro e9 wc ⟨rfl,hb⟩;replace H:=H.grew hb.below;clear hb))
  go_ret
  exact ⟨rfl,H.nix⟩
 by_cases hz2:64<m
 ·have e0:((n:Int)==0)=false:=by simp;omega
  have e1:decide ((64:Int)<(n:Int))=false:=by simp;omega
  have e2:decide (64<n)=false:=by simp;omega
  have e3:decide ((64:Int)<(m:Int))=true:=by simp;omega
  have e4:decide (64<m)=true:=by simp;omega
  go_enter Tryz.func9,Tryz.ntmps9
  go_wp2_with (first|refine sL ?_|(refine sS ?_;clear H;intros;rename_i H)|(go_at_call 31;with_reducible refine Calls.mono (HAL.out _ (H.known HK pk)) ?_;rintro e9 wc ⟨rfl,hb⟩;replace H:=H.grew hb.below;clear hb))
  go_ret
  exact ⟨rfl,H.nix⟩
 have e0:((n:Int)==0)=false:=by simp;omega
 have e1:decide ((64:Int)<(n:Int))=false:=by simp;omega
 have e2:decide (64<n)=false:=by simp;omega
 have e3:decide ((64:Int)<(m:Int))=false:=by simp;omega
 have e4:decide (64<m)=false:=by simp;omega
 go_enter Tryz.func9,Tryz.ntmps9
 go_wp2_with (first|refine sL ?_|(refine sS ?_;clear H;intros;rename_i H)|(go_at_call 31;with_reducible refine Calls.mono (HAL.out _ (H.known HK pk)) ?_;rintro e9 wc ⟨rfl,hb⟩;replace H:=H.grew hb.below;clear hb)|(go_at_call 33;with_reducible refine Calls.mono (HST.out _) ?_;rintro e9 wc ⟨X0,bm,mp,rfl,y1,y2,hb⟩;have HX0:=Lib.hid (And.intro y1 y2);clear y1 y2;replace H:=H.call0 hb;clear hb;simp only [List.cons_append,List.nil_append] at H))
 clear e0 e1 e2 e3 e4 HAL HST
 go_loopg [9,10,11,12] n (fun m v9 v10 v11 v12 wr=>ShR X0 w bm mp n text m v9 v10 v11 v12 wr)
 case atStart =>
  have H1:=H.empty (A:=rowsA encI 26 1 (.slice none 0 0) []) (rowsA_nil _) (by rw [rowsA_fp'];rfl)
  exact ⟨0,X0,0,0,[],rfl,Nat.zero_le _,rfl,rfl,rfl,⟨.refl _,HX0.out.1,by rw [HX0.out.2];simp,rfl,.inl ⟨rfl,rfl⟩,.inl ⟨by simp [HIN.out.2.2.2.1],rfl⟩,[],trivial,rfl⟩,H1.picks (.cons (A:=pA X0) pk (.cons (A:=blk bm (.cells #[.pointer (some ⟨X0.p,0,none⟩),.map (some mp)] 138)) pk (.cons (A:=mapA Tryz.prog 26 mp (([]:List (Nat×Nat)).map encK)) pk (.cons (A:=rowsA encI 26 1 (.slice none 0 0) []) pk .nil))))⟩
 case round =>
  clear H
  obtain ⟨i,X1,l,r,ids,rfl,hik,rfl,rfl,rfl,hrel,H⟩:=hrel
  have HRL:=Lib.hid hrel
  obtain ⟨ad3,c3,rfl,_⟩:=rowsA_shape (H.get (A:=rowsA encI 26 1 _ ids) pk)
  have hil:ids.length=i:=hrel.2.2.2.1
  by_cases hlt:i<n
  ·obtain ⟨n1,hn1⟩:∃ k,n=k+1:=⟨n-1,by omega⟩
   obtain ⟨j,hj⟩:∃ j,n1=j+i:=⟨n1-i,by omega⟩
   obtain ⟨b1,hb1⟩:∃ b,text[i]?=some b:=⟨_,List.getElem?_eq_getElem (by rw [HIN.out.2.2.2.1];exact hlt)⟩
   obtain ⟨b2,hb2⟩:∃ b,text[j]?=some b:=⟨_,List.getElem?_eq_getElem (by rw [HIN.out.2.2.2.1];omega)⟩
   obtain ⟨ad9,c9,hv,_,hg9⟩:=HIN.out.1
   obtain ⟨g,o,hg1,_⟩:=hg9 (by rw [HIN.out.2.2.2.1];omega)
   injection hv with hv1 hv2 hv3
   clear hv2
   rw [hg1] at hv1
   clear hg9 hg1
   subst hv1 hv3
   have hr9:=HIN.out.1
   have HC1:Hid (∀ w,(poolA P).ho w→w.cell? ⟨g,o+i,none⟩=some (.int .u8 b1)):=Lib.hid fun w h=>hr9.cell h encT_len hb1 rfl
   have HC2:Hid (∀ w,(poolA P).ho w→w.cell? ⟨g,o+j,none⟩=some (.int .u8 b2)):=Lib.hid fun w h=>hr9.cell h encT_len hb2 rfl
   have HB:Hid (text[i]?=some b1∧text[j]?=some b2∧b1<256∧b2<256∧n=n1+1∧n1=j+i∧ids.length=i∧n≤64∧i<n):=Lib.hid ⟨hb1,hb2,HIN.out.2.2.1 _ (List.mem_of_getElem? hb1),HIN.out.2.2.1 _ (List.mem_of_getElem? hb2),hn1,hj,hil,by omega,hlt⟩
   have d1:decide ((i:Int)<(n:Int))=true:=by simp;omega
   have d1n:decide (i<n)=true:=by simp;omega
   have d2:decide ((j:Int)<(n:Int))=true:=by simp;omega
   have d2n:decide (j<n)=true:=by simp;omega
   have s1:(n:Int)-1=(n1:Nat):=by omega
   have s2:(n1:Int)-(i:Int)=(j:Nat):=by omega
   have HM:Hid (∀ X:Px,X0.Ext X→X.S.list.length≤4*i+4→X.S.list.length<X.S.most):=Lib.hid fun X h h2=>by
    have:=HB.out
    rw [h.le.1,HX0.out.2]
    simp only
    omega
   have hol:ids.length≤64:=by omega
   clear hrel hr9 hb1 hb2 hn1 hj hil
   have HL1:Hid (∀ w,(pA X1).ho w→Calls Tryz.prog 42 #[.pointer (some ⟨X0.s,0,none⟩),.int .u8 b1] w (RPost X1 (fun S id=>Den S id (.leaf b1)) (pA X1).fp w)):=Lib.hid fun w h=>by
    obtain ⟨h1,h2,h3⟩:=HRL.out
    rw [← h1.s]
    exact mpost_room (HM.out _ h1 (by have:=h3.1;omega)) (fun S id h=>h) (letter_p b1 HB.out.2.2.1 h2 w h)
   go_wp2_with (first|refine sL ?_|(refine sS ?_;clear H;intros;rename_i H)|(go_at_call 42;with_reducible refine Calls.mono (HL1.out _ (H.get (A:=pA X1) pk)) ?_;rintro e9 wc ⟨X2,a1,rfl,y1,y2,y3,y4,hb⟩;have HX2:=Lib.hid (And.intro y1 (And.intro y2 (And.intro y3 y4)));clear y1 y2 y3 y4;replace H:=(H.pick (A:=pA X1) pk).call hb;clear hb;simp only [List.cons_append,List.nil_append] at H))
   have HY2:Hid (X0.Ext X2∧PxOk X2∧X2.S.list.length≤4*i+1∧Den X2.S a1 (.leaf b1)∧TxtIs X2.S l (text.take i)∧TxtIs X2.S r (text.drop (n-i))∧RowT X2.S ids (text.take i)):=Lib.hid (by
    obtain ⟨h1,h2,h3,h4,h5,h6,h7⟩:=HRL.out
    obtain ⟨g1,g2,g3,g4⟩:=HX2.out
    exact ⟨h1.trans g1,g2,by omega,g4,h5.le h2.ok g1.le,h6.le h2.ok g1.le,h7.le h2.ok g1.le⟩)
   clear HL1 HX2 HRL
   have HL2:Hid (∀ w,(pA X2).ho w→Calls Tryz.prog 42 #[.pointer (some ⟨X0.s,0,none⟩),.int .u8 b2] w (RPost X2 (fun S id=>Den S id (.leaf b2)) (pA X2).fp w)):=Lib.hid fun w h=>by
    obtain ⟨h1,h2,h3,h4⟩:=HY2.out
    rw [← h1.s]
    exact mpost_room (HM.out _ h1 (by omega)) (fun S id h=>h) (letter_p b2 HB.out.2.2.2.1 h2 w h)
   go_wp2_with (first|refine sL ?_|(refine sS ?_;clear H;intros;rename_i H)|(go_at_call 42;with_reducible refine Calls.mono (HL2.out _ (H.get (A:=pA X2) pk)) ?_;rintro e9 wc ⟨X3,a2,rfl,y1,y2,y3,y4,hb⟩;have HX3:=Lib.hid (And.intro y1 (And.intro y2 (And.intro y3 y4)));clear y1 y2 y3 y4;replace H:=(H.pick (A:=pA X2) pk).call hb;clear hb;simp only [List.cons_append,List.nil_append] at H))
   have HY3:Hid (X0.Ext X3∧PxOk X3∧X3.S.list.length≤4*i+2∧Den X3.S a1 (.leaf b1)∧Den X3.S a2 (.leaf b2)∧TxtIs X3.S l (text.take i)∧TxtIs X3.S r (text.drop (n-i))∧RowT X3.S ids (text.take i)):=Lib.hid (by
    obtain ⟨h1,h2,h3,h4,h5,h6,h7⟩:=HY2.out
    obtain ⟨g1,g2,g3,g4⟩:=HX3.out
    exact ⟨h1.trans g1,g2,by omega,h4.le h2.ok g1.le,g4,h5.le h2.ok g1.le,h6.le h2.ok g1.le,h7.le h2.ok g1.le⟩)
   clear HL2 HX3 HY2
   have HL3:Hid (∀ w,(pA X3).ho w→Calls Tryz.prog 43 #[.pointer (some ⟨X0.s,0,none⟩),.int .i64 l,.int .i64 a1] w (RPost X3 (fun S id=>TxtIs S id (text.take i++[b1])) (pA X3).fp w)):=Lib.hid fun w h=>by
    obtain ⟨h1,h2,h3,h4,h5,h6,h7,h8⟩:=HY3.out
    rw [← h1.s]
    exact pair_t (q:=[b1]) h6 (.inr ⟨_,h4,rfl⟩) (.inr (by simp)) (by have:=HB.out;have:=HIN.out.2.2.2.1;simp [maxT];omega) h2 (HM.out _ h1 (by omega)) w h
   go_wp2_with (first|refine sL ?_|(refine sS ?_;clear H;intros;rename_i H)|(go_at_call 43;with_reducible refine Calls.mono (HL3.out _ (H.get (A:=pA X3) pk)) ?_;rintro e9 wc ⟨X4,l4,rfl,y1,y2,y3,y4,hb⟩;have HX4:=Lib.hid (And.intro y1 (And.intro y2 (And.intro y3 y4)));clear y1 y2 y3 y4;replace H:=(H.pick (A:=pA X3) pk).call hb;clear hb;simp only [List.cons_append,List.nil_append] at H))
   have HY4:Hid (X0.Ext X4∧PxOk X4∧X4.S.list.length≤4*i+3∧Den X4.S a1 (.leaf b1)∧Den X4.S a2 (.leaf b2)∧TxtIs X4.S l4 (text.take i++[b1])∧TxtIs X4.S r (text.drop (n-i))∧RowT X4.S ids (text.take i)):=Lib.hid (by
    obtain ⟨h1,h2,h3,h4,h5,h6,h7,h8⟩:=HY3.out
    obtain ⟨g1,g2,g3,g4⟩:=HX4.out
    exact ⟨h1.trans g1,g2,by omega,h4.le h2.ok g1.le,h5.le h2.ok g1.le,g4,h7.le h2.ok g1.le,h8.le h2.ok g1.le⟩)
   clear HL3 HX4 HY3
   have HL4:Hid (∀ w,(pA X4).ho w→Calls Tryz.prog 43 #[.pointer (some ⟨X0.s,0,none⟩),.int .i64 a2,.int .i64 r] w (RPost X4 (fun S id=>TxtIs S id ([b2]++text.drop (n-i))) (pA X4).fp w)):=Lib.hid fun w h=>by
    obtain ⟨h1,h2,h3,h4,h5,h6,h7,h8⟩:=HY4.out
    rw [← h1.s]
    exact pair_t (p:=[b2]) (.inr ⟨_,h5,rfl⟩) h7 (.inl (by simp)) (by have:=HB.out;have:=HIN.out.2.2.2.1;simp [maxT];omega) h2 (HM.out _ h1 (by omega)) w h
   go_wp2_with (first|refine sL ?_|(refine sS ?_;clear H;intros;rename_i H)|(go_at_call 43;with_reducible refine Calls.mono (HL4.out _ (H.get (A:=pA X4) pk)) ?_;rintro e9 wc ⟨X5,r5,rfl,y1,y2,y3,y4,hb⟩;have HX5:=Lib.hid (And.intro y1 (And.intro y2 (And.intro y3 y4)));clear y1 y2 y3 y4;replace H:=(H.pick (A:=pA X4) pk).call hb;clear hb;simp only [List.cons_append,List.nil_append] at H)|((with_reducible refine isSlice ?_);refine AtSlice.one H rfl rfl rfl rfl rfl rfl rfl rfl rfl ?_;clear H;intro b8 _ H;simp only [Act.put,puA,puB,puC])|((with_reducible refine isAppend ?_);refine AtAppend.go (enc:=encI) H rfl rfl rfl rfl rfl (by decide) (by decide) rfl (xs:=ids) pk rfl (H.at pk) [a1] rfl (by simp [flatG,encI]) encI_len encI_one (by simp;omega) ?_;clear H;intro ad9 cp9 _ H;simp only [Act.put,puA,puB,puC]))
   have HY5:Hid (X0.Ext X5∧PxOk X5∧X5.S.list.length≤4*(i+1)∧Den X5.S a1 (.leaf b1)∧TxtIs X5.S l4 (text.take i++[b1])∧TxtIs X5.S r5 ([b2]++text.drop (n-i))∧RowT X5.S ids (text.take i)):=Lib.hid (by
    obtain ⟨h1,h2,h3,h4,h5,h6,h7,h8⟩:=HY4.out
    obtain ⟨g1,g2,g3,g4⟩:=HX5.out
    exact ⟨h1.trans g1,g2,by omega,h4.le h2.ok g1.le,h6.le h2.ok g1.le,g4,h8.le h2.ok g1.le⟩)
   clear HL4 HX5 HY4
   go_roundg (n-(i+1))
   case measure=>omega
   case rel =>
    have h0:=HB.out
    obtain ⟨h1,h2,h3,h4,h5,h6,h7⟩:=HY5.out
    have t1:text.take (i+1)=text.take i++[b1]:=by rw [List.take_add_one,h0.1];rfl
    have t2:text.drop (n-(i+1))=[b2]++text.drop (n-i):=by
     have hjl:j<text.length:=gelt h0.2.1
     rw [show n-(i+1)=j by omega,show n-i=j+1 by omega,List.drop_eq_getElem_cons hjl]
     have:=h0.2.1
     rw [List.getElem?_eq_getElem hjl] at this
     injection this with this
     rw [this];rfl
    refine ⟨i+1,X5,l4,r5,ids++[a1],rfl,by omega,rfl,rfl,by go_num,⟨h1,h2,h3,by simp;omega,by rw [t1];exact h5,by rw [t2];exact h6,by rw [t1];exact h7.snoc h4⟩,?_⟩
    exact H.picks (.cons (A:=pA X5) pk (.cons (A:=blk bm (.cells #[.pointer (some ⟨X0.p,0,none⟩),.map (some mp)] 138)) pk (.cons (A:=mapA Tryz.prog 26 mp (([]:List (Nat×Nat)).map encK)) pk (.cons (A:=rowsA encI 26 1 (.slice ad9 (ids.length+1) cp9) (ids++[a1])) pk .nil))))
  ·have hin:i=n:=by omega
   have d1:decide ((i:Int)<(n:Int))=false:=by simp;omega
   have d1n:decide (i<n)=false:=by simp;omega
   have HQ:Hid (X0.Ext X1∧PxOk X1∧X1.S.list.length≤4*n∧ids.length=n∧TxtIs X1.S l text∧TxtIs X1.S r text∧RowT X1.S ids text∧1≤n∧n≤64):=Lib.hid (by
    obtain ⟨h1,h2,h3,h4,h5,h6,h7⟩:=HRL.out
    have ht:text.take i=text:=List.take_of_length_le (by rw [HIN.out.2.2.2.1];omega)
    rw [ht] at h5 h7
    rw [hin,Nat.sub_self,List.drop_zero] at h6
    exact ⟨h1,h2,by omega,by omega,h5,h6,h7,by omega,by omega⟩)
   clear hrel HRL hil hin hz0 hz1 hlt hik
   go_wp2_with (first|refine sL ?_|(refine sS ?_;clear H;intros;rename_i H))
   go_loopg [9,21] n (fun m v9 v21 wr=>ShB X0 w bm mp n text l r m v9 v21 wr)
   case atStart =>
    obtain ⟨h1,h2,h3,h4,h5,h6,h7,h8,_⟩:=HQ.out
    exact ⟨0,X1,ids,h4.symm,rfl,⟨h1,h2,h3,by omega,by omega,h5,h6,h7⟩,H⟩
   case round =>
    clear H
    obtain ⟨k,X2,ids2,hm9,rfl,hrel,H⟩:=hrel
    have HRL:=Lib.hid hrel
    obtain ⟨g4,c4,rfl,hc4,_⟩:=rowsA_cases (H.get (A:=rowsA encI 26 1 _ ids2) pk) (by have:=hrel.2.2.2.2.1;omega)
    obtain ⟨L,hL⟩:∃ L,ids2.length=L:=⟨_,rfl⟩
    rw [hL] at H hm9 hc4 ⊢
    have HMM:=Lib.hid hm9
    clear hm9
    by_cases hlt:1<L
    ·obtain ⟨L1,hL1⟩:∃ q,L=q+1:=⟨L-1,by omega⟩
     have d1:decide ((1:Int)<(L:Int))=true:=by simp;omega
     have d1n:decide (1<L)=true:=by simp;omega
     have s3:(L:Int)-1=(L1:Nat):=by omega
     have d5:((L1:Int)==0)=false:=by simp;omega
     have HLL:Hid (L=L1+1∧1≤L1∧ids2.length=L):=Lib.hid ⟨hL1,by omega,hL⟩
     have hLb:L≤64∧k≤64:=by have:=HQ.out;have:=hrel;omega
     have hLb1:=hLb.1
     have hLb2:=hLb.2
     clear hrel hL1 hL hlt hLb
     by_cases hkm:k<m
     ·obtain ⟨z,hz⟩:∃ z,cuts[k]?=some z:=⟨_,List.getElem?_eq_getElem (by rw [HIN.out.2.2.2.2];exact hkm)⟩
      obtain ⟨ad8,c8,hv,_,hg8⟩:=HIN.out.2.1
      obtain ⟨g8,o8,hg1,_⟩:=hg8 (by rw [HIN.out.2.2.2.2];omega)
      injection hv with hv1 hv2 hv3
      clear hv2
      rw [hg1] at hv1
      clear hg8 hg1
      subst hv1 hv3
      have hr8:=HIN.out.2.1
      have HCZ:Hid (∀ w,(poolA P).ho w→w.cell? ⟨g8,o8+k,none⟩=some (.int .i64 z)):=Lib.hid fun w h=>hr8.cell h encZ_len hz rfl
      clear hr8 hz
      have d3:decide ((k:Int)<(m:Int))=true:=by simp;omega
      have d3n:decide (k<m)=true:=by simp;omega
      by_cases hzp:0<z
      ·obtain ⟨zn,rfl⟩:=Int.eq_ofNat_of_zero_le (show 0≤z by omega)
       have d4:decide ((0:Int)<(zn:Int))=true:=by simp;omega
       have d4n:decide (0<zn)=true:=by simp;omega
       obtain ⟨q,hq⟩:∃ q,zn%L1=q:=⟨_,rfl⟩
       have e1:Int.tmod (zn:Int) (L1:Int)=(q:Nat):=by rw [← hq];rfl
       have hqL:q<L1:=by rw [← hq];exact Nat.mod_lt _ (by have:=HLL.out;omega)
       clear hq hzp
       go_wp2_with (first|refine sL ?_|(refine sS ?_;clear H;intros;rename_i H))
       obtain ⟨q1,hq1⟩:∃ q1,q1=q+1:=⟨_,rfl⟩
       have i10:(q:Int)+1=(q1:Nat):=by omega
       have hik9:q<L:=by have:=HLL.out;omega
       have hik8:q1<L:=by have:=HLL.out;omega
       have d7:decide ((q1:Int)<(L:Int))=true:=by simp;omega
       have d7n:decide (q1<L)=true:=by simp;omega
       obtain ⟨us,hus,hfl⟩:=HRL.out.2.2.2.2.2.2.2
       obtain ⟨a,ha⟩:∃ a,ids2[q]?=some a:=⟨_,List.getElem?_eq_getElem (by have:=HLL.out;omega)⟩
       obtain ⟨b,hb⟩:∃ a,ids2[q1]?=some a:=⟨_,List.getElem?_eq_getElem (by have:=HLL.out;omega)⟩
       obtain ⟨ta,hta,hda⟩:=hus.get ha
       obtain ⟨tb,htb,hdb⟩:=hus.get hb
       have HA1:Hid (∀ w,(rowsA encI 26 1 (.slice (some ⟨g4,0,none⟩) L c4) ids2).ho w→w.cell? ⟨g4,q,none⟩=some (.int .i64 (a:Nat))):=Lib.hid fun w h=>by
        have:=rowsA_cell h encI_len (j:=0) ha rfl
        simpa using this
       have HA2:Hid (∀ w,(rowsA encI 26 1 (.slice (some ⟨g4,0,none⟩) L c4) ids2).ho w→w.cell? ⟨g4,q1,none⟩=some (.int .i64 (b:Nat))):=Lib.hid fun w h=>by
        have:=rowsA_cell h encI_len (j:=0) hb rfl
        simpa using this
       have HSP:Hid (us[q]?=some ta∧us[q1]?=some tb∧DenL X2.S ids2 us∧(us.map Tr.txt).flatten=text∧q1=q+1∧q1<L):=Lib.hid ⟨hta,htb,hus,hfl,hq1,hik8⟩
       have HJ:Hid (∀ w,(pA X2).ho w→Calls Tryz.prog 43 #[.pointer (some ⟨X0.s,0,none⟩),.int .i64 a,.int .i64 b] w (RPost X2 (fun S id=>Den S id (.pair ta tb)) (pA X2).fp w)):=Lib.hid fun w h=>by
        obtain ⟨h1,h2,h3,h4,_⟩:=HRL.out
        have hl9:=row_len (by rw [hq1] at htb;exact htb) hta hfl
        have hq9:=HQ.out
        rw [← h1.s]
        exact mpost_room (by rw [h1.le.1,HX0.out.2];simp only;omega) (fun S id h=>h) (pair_p hda hdb (by have:=HIN.out.2.2.2.1;simp [maxT];omega) h2 w h)
       clear hta htb hda hdb hus hfl ha hb hq1
       replace H:=H.picks (.cons (A:=pA X2) pk (.cons (A:=blk bm (.cells #[.pointer (some ⟨X0.p,0,none⟩),.map (some mp)] 138)) pk (.cons (A:=mapA Tryz.prog 26 mp (([]:List (Nat×Nat)).map encK)) pk (.cons (A:=rowsA encI 26 1 (.slice (some ⟨g4,0,none⟩) L c4) ids2) pk .nil))))
       refine wp_region_sgx 16 [⟨[],fun v _=>v=.pointer (some ⟨X0.s,0,none⟩)⟩,⟨[],fun v _=>v=.slice (some ⟨g4,0,none⟩) L c4⟩,⟨[],fun v _=>v=.int .i64 (q:Nat)⟩,⟨[1,2],fun v _=>v=.pointer (some ⟨g4,q,none⟩)⟩,⟨[3],fun v _=>v=.int .i64 (a:Nat)⟩,⟨[],fun v _=>v=.slice (some ⟨g4,0,none⟩) L c4⟩,⟨[],fun v _=>v=.int .i64 (q:Nat)⟩,⟨[6],fun v _=>v=.int .i64 (q1:Nat)⟩,⟨[5,7],fun v _=>v=.pointer (some ⟨g4,q1,none⟩)⟩,⟨[8],fun v _=>v=.int .i64 (b:Nat)⟩,⟨[0,4,9],fun v _=>∃ id:Nat,v=.tuple #[.int .i64 id,.nilIface]⟩,⟨[10],fun v ds=>ds=[v]⟩,⟨[11],fun v ds=>∃ id:Nat,ds=[.tuple #[.int .i64 id,.nilIface]]∧v=.int .i64 id⟩,⟨[11],fun v ds=>∃ id:Nat,ds=[.tuple #[.int .i64 id,.nilIface]]∧v=.nilIface⟩,⟨[12],fun v ds=>ds=[v]⟩,⟨[13],fun v ds=>ds=[v]⟩] [10] [[0],[0],[0],[0],[0],[0],[0],[0],[0],[0],[0],[1],[1],[1],[1],[1]] [fun _ wx=>St w [] [pA X2,blk bm (.cells #[.pointer (some ⟨X0.p,0,none⟩),.map (some mp)] 138),mapA Tryz.prog 26 mp (([]:List (Nat×Nat)).map encK),rowsA encI 26 1 (.slice (some ⟨g4,0,none⟩) L c4) ids2] wx,fun vals wx=>∃ (X5:Px) (id:Nat),vals 10=.tuple #[.int .i64 id,.nilIface]∧(X2.Ext X5∧PxOk X5∧X5.S.list.length≤X2.S.list.length+1∧Den X5.S id (.pair ta tb))∧St w [] [pA X5,blk bm (.cells #[.pointer (some ⟨X0.p,0,none⟩),.map (some mp)] 138),mapA Tryz.prog 26 mp (([]:List (Nat×Nat)).map encK),rowsA encI 26 1 (.slice (some ⟨g4,0,none⟩) L c4) ids2] wx]
        [[],[],[],[(1,138),(2,139)],[(3,140)],[],[],[(6,143)],[(5,142),(7,144)],[(8,145)],[(0,137),(4,141),(9,146)],[(10,147)],[(11,136)],[(11,136)],[(12,148)],[(13,149)]] [(0,137),(1,138),(2,139),(3,140),(4,141),(5,142),(6,143),(7,144),(8,145),(9,146),(10,147),(11,136),(12,148),(13,149),(14,23),(15,24)] (by kernel_rfl) (by kernel_rfl) H.drew ⟨⟨qo,trivial⟩,⟨qo,trivial⟩,⟨qo,trivial⟩,⟨?_,trivial⟩,⟨ql,trivial⟩,⟨qo,trivial⟩,⟨qo,trivial⟩,⟨qo,trivial⟩,⟨?_,trivial⟩,⟨ql,trivial⟩,⟨?_,trivial⟩,⟨?_,trivial⟩,⟨?_,trivial⟩,⟨?_,trivial⟩,⟨?_,trivial⟩,⟨?_,trivial⟩,trivial⟩ ?_
       ·intro vals wx hd HC
        simp only [GF] at hd
        have H:=HC
        simp only [CA] at H
        simp only [PS,hd]
        go_simp
        first|exact HC|exact ⟨rfl,HC⟩|(rw [if_pos hik9];exact ⟨rfl,HC⟩)
       ·intro vals wx hd HC
        simp only [GF] at hd
        have H:=HC
        simp only [CA] at H
        simp only [PS,hd]
        go_simp
        first|exact HC|exact ⟨rfl,HC⟩|(rw [if_pos hik8];exact ⟨rfl,HC⟩)
       ·intro vals wx hd HC
        simp only [GF] at hd
        obtain ⟨h0,h4,h9⟩:=hd
        have H:=HC
        simp only [CA] at H
        simp only [PS,h0,h4,h9]
        clear h0 h4 h9 HC
        go_simp
        with_reducible refine Calls.mono (HJ.out _ (H.get (A:=pA X2) pk)) ?_
        rintro e wz ⟨X5,id5,rfl,y1,y2,y3,y4,hb⟩
        have H2:=(H.pick (A:=pA X2) pk).call hb
        exact ⟨_,rfl,⟨_,rfl⟩,X5,id5,rfl,⟨y1,y2,y3,y4⟩,by simpa using H2⟩
       ·intro vals wx hd HC
        simp only [GF] at hd
        have h10:=hd
        clear hd
        have H:=HC
        simp only [CA] at H
        obtain ⟨X5,id5,hv10,hj5,H⟩:=H
        simp only [PS]
        clear h10
        go_simp
        first|exact HC|exact ⟨rfl,HC⟩
       ·intro vals wx hd HC
        simp only [GF] at hd
        have h11:=hd
        clear hd
        have H:=HC
        simp only [CA] at H
        obtain ⟨X5,id5,hv10,hj5,H⟩:=H
        simp only [PS]
        have e11:vals 11=.tuple #[.int .i64 id5,.nilIface]:=by rw [← hv10];exact X8 (show [vals 10]=[vals 11] from h11)
        simp only [e11]
        clear h11
        go_simp
        first|exact ⟨⟨id5,by simp [e11],rfl⟩,HC⟩|exact ⟨⟨id5,rfl⟩,HC⟩|exact ⟨rfl,HC⟩|exact HC|exact ⟨⟨⟨id5,rfl⟩,rfl⟩,HC⟩|exact ⟨⟨id5,rfl,rfl⟩,HC⟩|fail "Z9"
       ·intro vals wx hd HC
        simp only [GF] at hd
        have h11:=hd
        clear hd
        have H:=HC
        simp only [CA] at H
        obtain ⟨X5,id5,hv10,hj5,H⟩:=H
        simp only [PS]
        have e11:vals 11=.tuple #[.int .i64 id5,.nilIface]:=by rw [← hv10];exact X8 (show [vals 10]=[vals 11] from h11)
        simp only [e11]
        clear h11
        go_simp
        first|exact ⟨⟨id5,by simp [e11],rfl⟩,HC⟩|exact ⟨⟨id5,rfl⟩,HC⟩|exact ⟨rfl,HC⟩|exact HC|exact ⟨⟨⟨id5,rfl⟩,rfl⟩,HC⟩|exact ⟨⟨id5,rfl,rfl⟩,HC⟩|fail "Z9"
       ·intro vals wx hd HC
        simp only [GF] at hd
        have h12:=hd
        clear hd
        have H:=HC
        simp only [CA] at H
        obtain ⟨X5,id5,hv10,hj5,H⟩:=H
        simp only [PS]
        clear h12
        go_simp
        first|exact HC|exact ⟨rfl,HC⟩
       ·intro vals wx hd HC
        simp only [GF] at hd
        have h13:=hd
        clear hd
        have H:=HC
        simp only [CA] at H
        obtain ⟨X5,id5,hv10,hj5,H⟩:=H
        simp only [PS]
        clear h13
        go_simp
        first|exact HC|exact ⟨rfl,HC⟩
       intro vals wx hd HC
       have h10:=hd.2.2.2.2.2.2.2.2.2.2.1
       have h11:=hd.2.2.2.2.2.2.2.2.2.2.2.1
       have h12:=hd.2.2.2.2.2.2.2.2.2.2.2.2.1
       have h13:=hd.2.2.2.2.2.2.2.2.2.2.2.2.2.1
       have h14:=hd.2.2.2.2.2.2.2.2.2.2.2.2.2.2.1
       have h15:=hd.2.2.2.2.2.2.2.2.2.2.2.2.2.2.2.1
       simp only [CA] at HC
       obtain ⟨X5,id5,hv10,hj5,H⟩:=HC
       simp only [GF] at hd
       simp only [PS,hd]
       clear hd
       have e11:vals 11=.tuple #[.int .i64 id5,.nilIface]:=by rw [← hv10];exact X8 (show [vals 10]=[vals 11] from h11)
       have e14:vals 14=.int .i64 id5:=by
        obtain ⟨q,q1,q2⟩:=(h12:∃ id:Nat,[vals 11]=[.tuple #[.int .i64 id,.nilIface]]∧vals 12=.int .i64 id)
        replace q1:[vals 11]=[Value.tuple #[.int .i64 q,.nilIface]]:=q1
        rw [e11] at q1
        simp only [List.cons.injEq,and_true,Value.tuple.injEq,Array.mk.injEq,Value.int.injEq,true_and] at q1
        rw [X8 (show [vals 12]=[vals 14] from h14),q2,q1]
       have e15:vals 15=.nilIface:=by
        obtain ⟨q,q1,q2⟩:=(h13:∃ id:Nat,[vals 11]=[.tuple #[.int .i64 id,.nilIface]]∧vals 13=.nilIface)
        rw [X8 (show [vals 13]=[vals 15] from h15),q2]
       simp only [e14,e15]
       have HY:=Lib.hid hj5
       clear e11 e14 e15 h10 h11 h12 h13 h14 h15 hv10 hj5
       go_wp2_with (first|refine sL ?_|(refine sS ?_;clear H;intros;rename_i H))
       obtain ⟨P4,hr4,H2⟩:=St.to_pool (H.pick (A:=rowsA encI 26 1 (.slice (some ⟨g4,0,none⟩) L c4) ids2) pk) encI_len
       obtain ⟨q2,hq2⟩:∃ k,q+2=k:=⟨_,rfl⟩
       obtain ⟨m2,hm2⟩:∃ k,L-q2=k:=⟨_,rfl⟩
       obtain ⟨c2,hc2⟩:∃ k,c4-q2=k:=⟨_,rfl⟩
       have hil:=HLL.out.2.2
       have hs9:=HSP.out.2.2.2.2
       have hr5:RowIn P4 encI 1 (.slice (some ⟨g4,0,none⟩) ids2.length c4) ids2:=by rw [hil];exact hr4
       obtain ⟨a1,P8,hA8,hP8,hR8⟩:=row_seg hr5 (by omega) 0 q (by omega)
       obtain ⟨a2,P9,hA9,hP9,hR9⟩:=row_seg hr5 (by omega) q2 m2 (by omega)
       rw [List.drop_zero] at hR8
       rw [List.take_of_length_le (by simp;omega),hc2] at hR9
       have i11:(q:Int)+2=(q2:Nat):=by omega
       have l1:(ids2.take q).length=q:=by simp;omega
       have l2:(ids2.drop q2).length=m2:=by simp;omega
       have HN1:Hid (([]:List Nat).length+(ids2.take q).length=q):=Lib.hid (by rw [l1];simp)
       have HN3:Hid ((ids2.take q++[id5]).length+(ids2.drop q2).length=L1):=Lib.hid (by rw [l2];simp;have:=HLL.out;omega)
       have HB9:Hid (q≤q2∧q2≤L∧L≤c4∧L≤64∧L-q2=m2∧c4-q2=c2∧q+2=q2∧(ids2.take q).length=q∧(ids2.drop q2).length=m2∧([]:List Nat).length=0∧(ids2.take q++[id5]).length=q+1):=Lib.hid ⟨by omega,by omega,hc4,by omega,hm2,hc2,hq2,l1,l2,rfl,by simp;omega⟩
       have HC8:=Lib.hid hA8
       have HC9:=Lib.hid hA9
       have HP8:=Lib.hid hP8
       have HP9:=Lib.hid hP9
       have HR8:=Lib.hid hR8
       have HR9:=Lib.hid hR9
       have hqb:q≤64∧q2≤64∧m2≤64:=by omega
       have l3:(ids2.take q).length≤64:=by omega
       clear H hil hs9 hr4 hr5 hA8 hA9 hP8 hP9 hR8 hR9 hq2 hm2 hc2 l1 l2
       have H:=H2.picks (.cons (A:=poolA P4) pk (.cons (A:=pA X5) pk (.cons (A:=blk bm (.cells #[.pointer (some ⟨X0.p,0,none⟩),.map (some mp)] 138)) pk (.cons (A:=mapA Tryz.prog 26 mp (([]:List (Nat×Nat)).map encK)) pk .nil))))
       clear H2
       refine wp_region_rgx H [pA X5,blk bm (.cells #[.pointer (some ⟨X0.p,0,none⟩),.map (some mp)] 138),mapA Tryz.prog 26 mp (([]:List (Nat×Nat)).map encK)] 13 [⟨[],[],[],fun _ _=>True,fun v _=>[rowsA encI 26 1 (v) (([]:List Nat))]⟩,⟨[],[],[],fun v _=>v=.slice (some ⟨g4,0,none⟩) L c4,fun _ _=>[]⟩,⟨[],[],[],fun v _=>v=.int .i64 (q:Nat),fun _ _=>[]⟩,⟨[],[],[1,2],fun v _=>v=.slice a1 q c4,fun _ _=>[]⟩,⟨[0],[13],[3],fun _ _=>True,fun v _=>[rowsA encI 26 1 (v) (ids2.take q)]⟩,⟨[],[],[],fun v _=>v=.int .i64 (id5:Nat),fun _ _=>[]⟩,⟨[],[],[5],fun _ _=>True,fun v _=>[rowsA encI 26 1 (v) ([id5])]⟩,⟨[4],[6],[],fun _ _=>True,fun v _=>[rowsA encI 26 1 (v) (ids2.take q++[id5])]⟩,⟨[],[],[],fun v _=>v=.slice (some ⟨g4,0,none⟩) L c4,fun _ _=>[]⟩,⟨[],[],[],fun v _=>v=.int .i64 (q:Nat),fun _ _=>[]⟩,⟨[],[],[9],fun v _=>v=.int .i64 (q2:Nat),fun _ _=>[]⟩,⟨[],[],[8,10],fun v _=>v=.slice a2 m2 c2,fun _ _=>[]⟩,⟨[7],[13],[11],fun _ _=>True,fun v _=>[rowsA encI 26 1 (v) ((ids2.take q++[id5])++ids2.drop q2)]⟩,⟨[],[],[],fun _ _=>True,fun _ _=>[poolA P4]⟩] (by kernel_rfl)
        [[],[],[],[(1,153),(2,154)],[(0,152),(3,155)],[],[(5,157)],[(4,156),(6,158)],[],[],[(9,161)],[(8,160),(10,162)],[(7,159),(11,163)]] [(0,152),(1,153),(2,154),(3,155),(4,156),(5,157),(6,158),(7,159),(8,160),(9,161),(10,162),(11,163),(12,164)] [13,1,2,3,5,6,8,9,10,11,12] (by kernel_rfl) (by kernel_rfl) (by kernel_rfl) ⟨?_,?_,?_,?_,?_,?_,?_,?_,?_,?_,?_,?_,?_,trivial⟩ ?_
       ·intro vals wx X hd H
        clear hd
        simp only [asOf,prodOf,sAt,List.getD_cons_succ,List.getD_cons_zero,List.flatMap_cons,List.flatMap_nil,List.append_nil,List.nil_append,List.cons_append] at H
        simp only [putS,List.foldl_nil]
        exact StStep.slice0 (enc:=encI) H rfl rfl rfl rfl encI_len fun b w' H=>⟨trivial,H⟩
       ·intro vals wx X hd H
        clear hd
        simp only [asOf,prodOf,sAt,List.getD_cons_succ,List.getD_cons_zero,List.flatMap_cons,List.flatMap_nil,List.append_nil,List.nil_append,List.cons_append] at H
        simp only [putS,List.foldl_nil]
        go_simp
        first|exact H|exact ⟨rfl,H⟩
       ·intro vals wx X hd H
        clear hd
        simp only [asOf,prodOf,sAt,List.getD_cons_succ,List.getD_cons_zero,List.flatMap_cons,List.flatMap_nil,List.append_nil,List.nil_append,List.cons_append] at H
        simp only [putS,List.foldl_nil]
        go_simp
        first|exact H|exact ⟨rfl,H⟩
       ·intro vals wx X hd H
        have h1:vals 1=.slice (some ⟨g4,0,none⟩) L c4:=hd.1
        have h2:vals 2=.int .i64 (q:Nat):=hd.2.1
        clear hd
        simp only [asOf,prodOf,sAt,List.getD_cons_succ,List.getD_cons_zero,List.flatMap_cons,List.flatMap_nil,List.append_nil,List.nil_append,List.cons_append] at H
        simp only [putS,List.foldl_nil,List.foldl_cons,Act.put,List.setIfInBounds_toArray,List.set_cons_zero,List.set_cons_succ,h1,h2]
        refine StStep.seg3 none (some q) rfl rfl rfl rfl rfl rfl rfl (l:=0) (h:=q) rfl rfl (by have:=HB9.out;omega) (by have:=HB9.out;omega) (m:=q) (by have:=HB9.out;omega) (cr:=c4) (by have:=HB9.out;omega) HC8.out ⟨rfl,H⟩
       ·intro vals wx X hd H
        have h3:vals 3=.slice a1 q c4:=hd.1
        clear hd
        simp only [asOf,prodOf,sAt,List.getD_cons_succ,List.getD_cons_zero,List.flatMap_cons,List.flatMap_nil,List.append_nil,List.nil_append,List.cons_append] at H
        simp only [putS,List.foldl_nil,List.foldl_cons,Act.put,List.setIfInBounds_toArray,List.set_cons_zero,List.set_cons_succ,h3]
        refine StStep.appendP (enc:=encI) (xs:=[]) (ys:=ids2.take q) rfl rfl rfl rfl rfl (by decide) (by decide) rfl rfl H HR8.out (HP8.out _ (H.get (A:=poolA P4) pk)) encI_len encI_one (by have:=HB9.out;omega) HN1.out ?_
        intro ad9 cp9 wz H
        exact ⟨trivial,H⟩
       ·intro vals wx X hd H
        clear hd
        simp only [asOf,prodOf,sAt,List.getD_cons_succ,List.getD_cons_zero,List.flatMap_cons,List.flatMap_nil,List.append_nil,List.nil_append,List.cons_append] at H
        simp only [putS,List.foldl_nil]
        go_simp
        first|exact H|exact ⟨rfl,H⟩
       ·intro vals wx X hd H
        have h5:vals 5=.int .i64 (id5:Nat):=hd.1
        clear hd
        simp only [asOf,prodOf,sAt,List.getD_cons_succ,List.getD_cons_zero,List.flatMap_cons,List.flatMap_nil,List.append_nil,List.nil_append,List.cons_append] at H
        simp only [putS,List.foldl_nil,List.foldl_cons,Act.put,List.setIfInBounds_toArray,List.set_cons_zero,List.set_cons_succ,h5]
        exact StStep.slice1 (enc:=encI) H rfl rfl rfl rfl rfl rfl rfl rfl rfl id5 rfl encI_len fun b w' H=>⟨trivial,H⟩
       ·intro vals wx X hd H
        clear hd
        simp only [asOf,prodOf,sAt,List.getD_cons_succ,List.getD_cons_zero,List.flatMap_cons,List.flatMap_nil,List.append_nil,List.nil_append,List.cons_append] at H
        simp only [putS,List.foldl_nil,List.foldl_cons,Act.put,List.setIfInBounds_toArray,List.set_cons_zero,List.set_cons_succ]
        exact StStep.append (enc:=encI) rfl rfl rfl rfl rfl (by decide) (by decide) rfl rfl H (H.get (A:=rowsA encI 26 1 (vals 6) ([id5])) pk) encI_len encI_one (by simp;omega) fun v' w' H=>⟨trivial,H⟩
       ·intro vals wx X hd H
        clear hd
        simp only [asOf,prodOf,sAt,List.getD_cons_succ,List.getD_cons_zero,List.flatMap_cons,List.flatMap_nil,List.append_nil,List.nil_append,List.cons_append] at H
        simp only [putS,List.foldl_nil]
        go_simp
        first|exact H|exact ⟨rfl,H⟩
       ·intro vals wx X hd H
        clear hd
        simp only [asOf,prodOf,sAt,List.getD_cons_succ,List.getD_cons_zero,List.flatMap_cons,List.flatMap_nil,List.append_nil,List.nil_append,List.cons_append] at H
        simp only [putS,List.foldl_nil]
        go_simp
        first|exact H|exact ⟨rfl,H⟩
       ·intro vals wx X hd H
        have h9:vals 9=.int .i64 (q:Nat):=hd.1
        clear hd
        simp only [asOf,prodOf,sAt,List.getD_cons_succ,List.getD_cons_zero,List.flatMap_cons,List.flatMap_nil,List.append_nil,List.nil_append,List.cons_append] at H
        simp only [putS,List.foldl_nil,List.foldl_cons,Act.put,List.setIfInBounds_toArray,List.set_cons_zero,List.set_cons_succ,h9]
        go_simp
        exact ⟨IntWalk.i64_in _ (by omega),H⟩
       ·intro vals wx X hd H
        have h8:vals 8=.slice (some ⟨g4,0,none⟩) L c4:=hd.1
        have h10:vals 10=.int .i64 (q2:Nat):=hd.2.1
        clear hd
        simp only [asOf,prodOf,sAt,List.getD_cons_succ,List.getD_cons_zero,List.flatMap_cons,List.flatMap_nil,List.append_nil,List.nil_append,List.cons_append] at H
        simp only [putS,List.foldl_nil,List.foldl_cons,Act.put,List.setIfInBounds_toArray,List.set_cons_zero,List.set_cons_succ,h8,h10]
        refine StStep.seg3 (some q2) none rfl rfl rfl rfl rfl rfl rfl (l:=q2) (h:=L) rfl rfl (by have:=HB9.out;omega) (by have:=HB9.out;omega) (m:=m2) (by have:=HB9.out;omega) (cr:=c2) (by have:=HB9.out;omega) HC9.out ⟨rfl,H⟩
       ·intro vals wx X hd H
        have h11:vals 11=.slice a2 m2 c2:=hd.1
        clear hd
        simp only [asOf,prodOf,sAt,List.getD_cons_succ,List.getD_cons_zero,List.flatMap_cons,List.flatMap_nil,List.append_nil,List.nil_append,List.cons_append] at H
        simp only [putS,List.foldl_nil,List.foldl_cons,Act.put,List.setIfInBounds_toArray,List.set_cons_zero,List.set_cons_succ,h11]
        refine StStep.appendP (enc:=encI) (xs:=(ids2.take q++[id5])) (ys:=ids2.drop q2) rfl rfl rfl rfl rfl (by decide) (by decide) rfl rfl H HR9.out (HP9.out _ (H.get (A:=poolA P4) pk)) encI_len encI_one (by have:=HB9.out;omega) HN3.out ?_
        intro ad9 cp9 wz H
        exact ⟨trivial,H⟩
       intro vals wx hd H
       have h1:vals 1=.slice (some ⟨g4,0,none⟩) L c4:=hd.2.1
       have h2:vals 2=.int .i64 (q:Nat):=hd.2.2.1
       have h3:vals 3=.slice a1 q c4:=hd.2.2.2.1
       have h5:vals 5=.int .i64 (id5:Nat):=hd.2.2.2.2.2.1
       have h8:vals 8=.slice (some ⟨g4,0,none⟩) L c4:=hd.2.2.2.2.2.2.2.2.1
       have h9:vals 9=.int .i64 (q:Nat):=hd.2.2.2.2.2.2.2.2.2.1
       have h10:vals 10=.int .i64 (q2:Nat):=hd.2.2.2.2.2.2.2.2.2.2.1
       have h11:vals 11=.slice a2 m2 c2:=hd.2.2.2.2.2.2.2.2.2.2.2.1
       clear hd
       simp only [asOf,prodOf,sAt,List.getD_cons_succ,List.getD_cons_zero,List.flatMap_cons,List.flatMap_nil,List.append_nil,List.nil_append,List.cons_append] at H
       simp only [putS,List.foldl_nil,List.foldl_cons,Act.put,List.setIfInBounds_toArray,List.set_cons_zero,List.set_cons_succ,List.drop_succ_cons,List.drop_zero,h1,h2,h3,h5,h8,h9,h10,h11]
       clear h1 h2 h3 h5 h8 h9 h10 h11
       go_wp2_with (first|refine sL ?_|(refine sS ?_;clear H;intros;rename_i H))
       go_roundg L1
       case measure=>have:=HMM.out;have:=HLL.out;omega
       case rel =>
        obtain ⟨h1,h2,h3,h4,h5,h6,h7,_⟩:=HRL.out
        obtain ⟨y1,y2,y3,y4⟩:=HY.out
        have hs:=HSP.out
        have hl:=HLL.out
        have hb:=HB9.out
        have hlen:((ids2.take q++[id5])++ids2.drop q2).length=L1:=by rw [List.length_append];exact HN3.out
        refine ⟨k+1,X5,(ids2.take q++[id5])++ids2.drop q2,hlen.symm,by go_num,⟨h1.trans y1,y2,by omega,by omega,by omega,h6.le h2.ok y1.le,h7.le h2.ok y1.le,?_⟩,H.picks (.cons (A:=pA X5) pk (.cons (A:=blk bm (.cells #[.pointer (some ⟨X0.p,0,none⟩),.map (some mp)] 138)) pk (.cons (A:=mapA Tryz.prog 26 mp (([]:List (Nat×Nat)).map encK)) pk (.cons (A:=rowsA encI 26 1 (vals 12) ((ids2.take q++[id5])++ids2.drop q2)) pk .nil))))⟩
        have hq:=hs.2.2.1.le h2.ok y1.le
        refine ⟨(us.take q++[.pair ta tb])++us.drop q2,((hq.take q).snoc y4).append (hq.drop q2),?_⟩
        have e:=row_split hs.1 (by rw [← hs.2.2.2.2.1];exact hs.2.1)
        have hf:=hs.2.2.2.1
        rw [e] at hf
        rw [← hf,show q2=q+2 by omega]
        simp [Tr.txt]
      ·have d4:decide ((0:Int)<z)=false:=by simp;omega
       go_wp2_with (first|refine sL ?_|(refine sS ?_;clear H;intros;rename_i H))
       obtain ⟨q,hq0,hqL⟩:∃ q:Nat,(0:Int)=(q:Nat)∧q<L1:=⟨0,rfl,by have:=HLL.out;omega⟩
       rw [hq0]
       clear hq0
       obtain ⟨q1,hq1⟩:∃ q1,q1=q+1:=⟨_,rfl⟩
       have i10:(q:Int)+1=(q1:Nat):=by omega
       have hik9:q<L:=by have:=HLL.out;omega
       have hik8:q1<L:=by have:=HLL.out;omega
       have d7:decide ((q1:Int)<(L:Int))=true:=by simp;omega
       have d7n:decide (q1<L)=true:=by simp;omega
       obtain ⟨us,hus,hfl⟩:=HRL.out.2.2.2.2.2.2.2
       obtain ⟨a,ha⟩:∃ a,ids2[q]?=some a:=⟨_,List.getElem?_eq_getElem (by have:=HLL.out;omega)⟩
       obtain ⟨b,hb⟩:∃ a,ids2[q1]?=some a:=⟨_,List.getElem?_eq_getElem (by have:=HLL.out;omega)⟩
       obtain ⟨ta,hta,hda⟩:=hus.get ha
       obtain ⟨tb,htb,hdb⟩:=hus.get hb
       have HA1:Hid (∀ w,(rowsA encI 26 1 (.slice (some ⟨g4,0,none⟩) L c4) ids2).ho w→w.cell? ⟨g4,q,none⟩=some (.int .i64 (a:Nat))):=Lib.hid fun w h=>by
        have:=rowsA_cell h encI_len (j:=0) ha rfl
        simpa using this
       have HA2:Hid (∀ w,(rowsA encI 26 1 (.slice (some ⟨g4,0,none⟩) L c4) ids2).ho w→w.cell? ⟨g4,q1,none⟩=some (.int .i64 (b:Nat))):=Lib.hid fun w h=>by
        have:=rowsA_cell h encI_len (j:=0) hb rfl
        simpa using this
       have HSP:Hid (us[q]?=some ta∧us[q1]?=some tb∧DenL X2.S ids2 us∧(us.map Tr.txt).flatten=text∧q1=q+1∧q1<L):=Lib.hid ⟨hta,htb,hus,hfl,hq1,hik8⟩
       have HJ:Hid (∀ w,(pA X2).ho w→Calls Tryz.prog 43 #[.pointer (some ⟨X0.s,0,none⟩),.int .i64 a,.int .i64 b] w (RPost X2 (fun S id=>Den S id (.pair ta tb)) (pA X2).fp w)):=Lib.hid fun w h=>by
        obtain ⟨h1,h2,h3,h4,_⟩:=HRL.out
        have hl9:=row_len (by rw [hq1] at htb;exact htb) hta hfl
        have hq9:=HQ.out
        rw [← h1.s]
        exact mpost_room (by rw [h1.le.1,HX0.out.2];simp only;omega) (fun S id h=>h) (pair_p hda hdb (by have:=HIN.out.2.2.2.1;simp [maxT];omega) h2 w h)
       clear hta htb hda hdb hus hfl ha hb hq1
       replace H:=H.picks (.cons (A:=pA X2) pk (.cons (A:=blk bm (.cells #[.pointer (some ⟨X0.p,0,none⟩),.map (some mp)] 138)) pk (.cons (A:=mapA Tryz.prog 26 mp (([]:List (Nat×Nat)).map encK)) pk (.cons (A:=rowsA encI 26 1 (.slice (some ⟨g4,0,none⟩) L c4) ids2) pk .nil))))
       refine wp_region_sgx 16 [⟨[],fun v _=>v=.pointer (some ⟨X0.s,0,none⟩)⟩,⟨[],fun v _=>v=.slice (some ⟨g4,0,none⟩) L c4⟩,⟨[],fun v _=>v=.int .i64 (q:Nat)⟩,⟨[1,2],fun v _=>v=.pointer (some ⟨g4,q,none⟩)⟩,⟨[3],fun v _=>v=.int .i64 (a:Nat)⟩,⟨[],fun v _=>v=.slice (some ⟨g4,0,none⟩) L c4⟩,⟨[],fun v _=>v=.int .i64 (q:Nat)⟩,⟨[6],fun v _=>v=.int .i64 (q1:Nat)⟩,⟨[5,7],fun v _=>v=.pointer (some ⟨g4,q1,none⟩)⟩,⟨[8],fun v _=>v=.int .i64 (b:Nat)⟩,⟨[0,4,9],fun v _=>∃ id:Nat,v=.tuple #[.int .i64 id,.nilIface]⟩,⟨[10],fun v ds=>ds=[v]⟩,⟨[11],fun v ds=>∃ id:Nat,ds=[.tuple #[.int .i64 id,.nilIface]]∧v=.int .i64 id⟩,⟨[11],fun v ds=>∃ id:Nat,ds=[.tuple #[.int .i64 id,.nilIface]]∧v=.nilIface⟩,⟨[12],fun v ds=>ds=[v]⟩,⟨[13],fun v ds=>ds=[v]⟩] [10] [[0],[0],[0],[0],[0],[0],[0],[0],[0],[0],[0],[1],[1],[1],[1],[1]] [fun _ wx=>St w [] [pA X2,blk bm (.cells #[.pointer (some ⟨X0.p,0,none⟩),.map (some mp)] 138),mapA Tryz.prog 26 mp (([]:List (Nat×Nat)).map encK),rowsA encI 26 1 (.slice (some ⟨g4,0,none⟩) L c4) ids2] wx,fun vals wx=>∃ (X5:Px) (id:Nat),vals 10=.tuple #[.int .i64 id,.nilIface]∧(X2.Ext X5∧PxOk X5∧X5.S.list.length≤X2.S.list.length+1∧Den X5.S id (.pair ta tb))∧St w [] [pA X5,blk bm (.cells #[.pointer (some ⟨X0.p,0,none⟩),.map (some mp)] 138),mapA Tryz.prog 26 mp (([]:List (Nat×Nat)).map encK),rowsA encI 26 1 (.slice (some ⟨g4,0,none⟩) L c4) ids2] wx]
        [[],[],[],[(1,138),(2,139)],[(3,140)],[],[],[(6,143)],[(5,142),(7,144)],[(8,145)],[(0,137),(4,141),(9,146)],[(10,147)],[(11,136)],[(11,136)],[(12,148)],[(13,149)]] [(0,137),(1,138),(2,139),(3,140),(4,141),(5,142),(6,143),(7,144),(8,145),(9,146),(10,147),(11,136),(12,148),(13,149),(14,23),(15,24)] (by kernel_rfl) (by kernel_rfl) H.drew ⟨⟨qo,trivial⟩,⟨qo,trivial⟩,⟨qo,trivial⟩,⟨?_,trivial⟩,⟨ql,trivial⟩,⟨qo,trivial⟩,⟨qo,trivial⟩,⟨qo,trivial⟩,⟨?_,trivial⟩,⟨ql,trivial⟩,⟨?_,trivial⟩,⟨?_,trivial⟩,⟨?_,trivial⟩,⟨?_,trivial⟩,⟨?_,trivial⟩,⟨?_,trivial⟩,trivial⟩ ?_
       ·intro vals wx hd HC
        simp only [GF] at hd
        have H:=HC
        simp only [CA] at H
        simp only [PS,hd]
        go_simp
        first|exact HC|exact ⟨rfl,HC⟩|(rw [if_pos hik9];exact ⟨rfl,HC⟩)
       ·intro vals wx hd HC
        simp only [GF] at hd
        have H:=HC
        simp only [CA] at H
        simp only [PS,hd]
        go_simp
        first|exact HC|exact ⟨rfl,HC⟩|(rw [if_pos hik8];exact ⟨rfl,HC⟩)
       ·intro vals wx hd HC
        simp only [GF] at hd
        obtain ⟨h0,h4,h9⟩:=hd
        have H:=HC
        simp only [CA] at H
        simp only [PS,h0,h4,h9]
        clear h0 h4 h9 HC
        go_simp
        with_reducible refine Calls.mono (HJ.out _ (H.get (A:=pA X2) pk)) ?_
        rintro e wz ⟨X5,id5,rfl,y1,y2,y3,y4,hb⟩
        have H2:=(H.pick (A:=pA X2) pk).call hb
        exact ⟨_,rfl,⟨_,rfl⟩,X5,id5,rfl,⟨y1,y2,y3,y4⟩,by simpa using H2⟩
       ·intro vals wx hd HC
        simp only [GF] at hd
        have h10:=hd
        clear hd
        have H:=HC
        simp only [CA] at H
        obtain ⟨X5,id5,hv10,hj5,H⟩:=H
        simp only [PS]
        clear h10
        go_simp
        first|exact HC|exact ⟨rfl,HC⟩
       ·intro vals wx hd HC
        simp only [GF] at hd
        have h11:=hd
        clear hd
        have H:=HC
        simp only [CA] at H
        obtain ⟨X5,id5,hv10,hj5,H⟩:=H
        simp only [PS]
        have e11:vals 11=.tuple #[.int .i64 id5,.nilIface]:=by rw [← hv10];exact X8 (show [vals 10]=[vals 11] from h11)
        simp only [e11]
        clear h11
        go_simp
        first|exact ⟨⟨id5,by simp [e11],rfl⟩,HC⟩|exact ⟨⟨id5,rfl⟩,HC⟩|exact ⟨rfl,HC⟩|exact HC|exact ⟨⟨⟨id5,rfl⟩,rfl⟩,HC⟩|exact ⟨⟨id5,rfl,rfl⟩,HC⟩|fail "Z9"
       ·intro vals wx hd HC
        simp only [GF] at hd
        have h11:=hd
        clear hd
        have H:=HC
        simp only [CA] at H
        obtain ⟨X5,id5,hv10,hj5,H⟩:=H
        simp only [PS]
        have e11:vals 11=.tuple #[.int .i64 id5,.nilIface]:=by rw [← hv10];exact X8 (show [vals 10]=[vals 11] from h11)
        simp only [e11]
        clear h11
        go_simp
        first|exact ⟨⟨id5,by simp [e11],rfl⟩,HC⟩|exact ⟨⟨id5,rfl⟩,HC⟩|exact ⟨rfl,HC⟩|exact HC|exact ⟨⟨⟨id5,rfl⟩,rfl⟩,HC⟩|exact ⟨⟨id5,rfl,rfl⟩,HC⟩|fail "Z9"
       ·intro vals wx hd HC
        simp only [GF] at hd
        have h12:=hd
        clear hd
        have H:=HC
        simp only [CA] at H
        obtain ⟨X5,id5,hv10,hj5,H⟩:=H
        simp only [PS]
        clear h12
        go_simp
        first|exact HC|exact ⟨rfl,HC⟩
       ·intro vals wx hd HC
        simp only [GF] at hd
        have h13:=hd
        clear hd
        have H:=HC
        simp only [CA] at H
        obtain ⟨X5,id5,hv10,hj5,H⟩:=H
        simp only [PS]
        clear h13
        go_simp
        first|exact HC|exact ⟨rfl,HC⟩
       intro vals wx hd HC
       have h10:=hd.2.2.2.2.2.2.2.2.2.2.1
       have h11:=hd.2.2.2.2.2.2.2.2.2.2.2.1
       have h12:=hd.2.2.2.2.2.2.2.2.2.2.2.2.1
       have h13:=hd.2.2.2.2.2.2.2.2.2.2.2.2.2.1
       have h14:=hd.2.2.2.2.2.2.2.2.2.2.2.2.2.2.1
       have h15:=hd.2.2.2.2.2.2.2.2.2.2.2.2.2.2.2.1
       simp only [CA] at HC
       obtain ⟨X5,id5,hv10,hj5,H⟩:=HC
       simp only [GF] at hd
       simp only [PS,hd]
       clear hd
       have e11:vals 11=.tuple #[.int .i64 id5,.nilIface]:=by rw [← hv10];exact X8 (show [vals 10]=[vals 11] from h11)
       have e14:vals 14=.int .i64 id5:=by
        obtain ⟨q,q1,q2⟩:=(h12:∃ id:Nat,[vals 11]=[.tuple #[.int .i64 id,.nilIface]]∧vals 12=.int .i64 id)
        replace q1:[vals 11]=[Value.tuple #[.int .i64 q,.nilIface]]:=q1
        rw [e11] at q1
        simp only [List.cons.injEq,and_true,Value.tuple.injEq,Array.mk.injEq,Value.int.injEq,true_and] at q1
        rw [X8 (show [vals 12]=[vals 14] from h14),q2,q1]
       have e15:vals 15=.nilIface:=by
        obtain ⟨q,q1,q2⟩:=(h13:∃ id:Nat,[vals 11]=[.tuple #[.int .i64 id,.nilIface]]∧vals 13=.nilIface)
        rw [X8 (show [vals 13]=[vals 15] from h15),q2]
       simp only [e14,e15]
       have HY:=Lib.hid hj5
       clear e11 e14 e15 h10 h11 h12 h13 h14 h15 hv10 hj5
       go_wp2_with (first|refine sL ?_|(refine sS ?_;clear H;intros;rename_i H))
       obtain ⟨P4,hr4,H2⟩:=St.to_pool (H.pick (A:=rowsA encI 26 1 (.slice (some ⟨g4,0,none⟩) L c4) ids2) pk) encI_len
       obtain ⟨q2,hq2⟩:∃ k,q+2=k:=⟨_,rfl⟩
       obtain ⟨m2,hm2⟩:∃ k,L-q2=k:=⟨_,rfl⟩
       obtain ⟨c2,hc2⟩:∃ k,c4-q2=k:=⟨_,rfl⟩
       have hil:=HLL.out.2.2
       have hs9:=HSP.out.2.2.2.2
       have hr5:RowIn P4 encI 1 (.slice (some ⟨g4,0,none⟩) ids2.length c4) ids2:=by rw [hil];exact hr4
       obtain ⟨a1,P8,hA8,hP8,hR8⟩:=row_seg hr5 (by omega) 0 q (by omega)
       obtain ⟨a2,P9,hA9,hP9,hR9⟩:=row_seg hr5 (by omega) q2 m2 (by omega)
       rw [List.drop_zero] at hR8
       rw [List.take_of_length_le (by simp;omega),hc2] at hR9
       have i11:(q:Int)+2=(q2:Nat):=by omega
       have l1:(ids2.take q).length=q:=by simp;omega
       have l2:(ids2.drop q2).length=m2:=by simp;omega
       have HN1:Hid (([]:List Nat).length+(ids2.take q).length=q):=Lib.hid (by rw [l1];simp)
       have HN3:Hid ((ids2.take q++[id5]).length+(ids2.drop q2).length=L1):=Lib.hid (by rw [l2];simp;have:=HLL.out;omega)
       have HB9:Hid (q≤q2∧q2≤L∧L≤c4∧L≤64∧L-q2=m2∧c4-q2=c2∧q+2=q2∧(ids2.take q).length=q∧(ids2.drop q2).length=m2∧([]:List Nat).length=0∧(ids2.take q++[id5]).length=q+1):=Lib.hid ⟨by omega,by omega,hc4,by omega,hm2,hc2,hq2,l1,l2,rfl,by simp;omega⟩
       have HC8:=Lib.hid hA8
       have HC9:=Lib.hid hA9
       have HP8:=Lib.hid hP8
       have HP9:=Lib.hid hP9
       have HR8:=Lib.hid hR8
       have HR9:=Lib.hid hR9
       have hqb:q≤64∧q2≤64∧m2≤64:=by omega
       have l3:(ids2.take q).length≤64:=by omega
       clear H hil hs9 hr4 hr5 hA8 hA9 hP8 hP9 hR8 hR9 hq2 hm2 hc2 l1 l2
       have H:=H2.picks (.cons (A:=poolA P4) pk (.cons (A:=pA X5) pk (.cons (A:=blk bm (.cells #[.pointer (some ⟨X0.p,0,none⟩),.map (some mp)] 138)) pk (.cons (A:=mapA Tryz.prog 26 mp (([]:List (Nat×Nat)).map encK)) pk .nil))))
       clear H2
       refine wp_region_rgx H [pA X5,blk bm (.cells #[.pointer (some ⟨X0.p,0,none⟩),.map (some mp)] 138),mapA Tryz.prog 26 mp (([]:List (Nat×Nat)).map encK)] 13 [⟨[],[],[],fun _ _=>True,fun v _=>[rowsA encI 26 1 (v) (([]:List Nat))]⟩,⟨[],[],[],fun v _=>v=.slice (some ⟨g4,0,none⟩) L c4,fun _ _=>[]⟩,⟨[],[],[],fun v _=>v=.int .i64 (q:Nat),fun _ _=>[]⟩,⟨[],[],[1,2],fun v _=>v=.slice a1 q c4,fun _ _=>[]⟩,⟨[0],[13],[3],fun _ _=>True,fun v _=>[rowsA encI 26 1 (v) (ids2.take q)]⟩,⟨[],[],[],fun v _=>v=.int .i64 (id5:Nat),fun _ _=>[]⟩,⟨[],[],[5],fun _ _=>True,fun v _=>[rowsA encI 26 1 (v) ([id5])]⟩,⟨[4],[6],[],fun _ _=>True,fun v _=>[rowsA encI 26 1 (v) (ids2.take q++[id5])]⟩,⟨[],[],[],fun v _=>v=.slice (some ⟨g4,0,none⟩) L c4,fun _ _=>[]⟩,⟨[],[],[],fun v _=>v=.int .i64 (q:Nat),fun _ _=>[]⟩,⟨[],[],[9],fun v _=>v=.int .i64 (q2:Nat),fun _ _=>[]⟩,⟨[],[],[8,10],fun v _=>v=.slice a2 m2 c2,fun _ _=>[]⟩,⟨[7],[13],[11],fun _ _=>True,fun v _=>[rowsA encI 26 1 (v) ((ids2.take q++[id5])++ids2.drop q2)]⟩,⟨[],[],[],fun _ _=>True,fun _ _=>[poolA P4]⟩] (by kernel_rfl)
        [[],[],[],[(1,153),(2,154)],[(0,152),(3,155)],[],[(5,157)],[(4,156),(6,158)],[],[],[(9,161)],[(8,160),(10,162)],[(7,159),(11,163)]] [(0,152),(1,153),(2,154),(3,155),(4,156),(5,157),(6,158),(7,159),(8,160),(9,161),(10,162),(11,163),(12,164)] [13,1,2,3,5,6,8,9,10,11,12] (by kernel_rfl) (by kernel_rfl) (by kernel_rfl) ⟨?_,?_,?_,?_,?_,?_,?_,?_,?_,?_,?_,?_,?_,trivial⟩ ?_
       ·intro vals wx X hd H
        clear hd
        simp only [asOf,prodOf,sAt,List.getD_cons_succ,List.getD_cons_zero,List.flatMap_cons,List.flatMap_nil,List.append_nil,List.nil_append,List.cons_append] at H
        simp only [putS,List.foldl_nil]
        exact StStep.slice0 (enc:=encI) H rfl rfl rfl rfl encI_len fun b w' H=>⟨trivial,H⟩
       ·intro vals wx X hd H
        clear hd
        simp only [asOf,prodOf,sAt,List.getD_cons_succ,List.getD_cons_zero,List.flatMap_cons,List.flatMap_nil,List.append_nil,List.nil_append,List.cons_append] at H
        simp only [putS,List.foldl_nil]
        go_simp
        first|exact H|exact ⟨rfl,H⟩
       ·intro vals wx X hd H
        clear hd
        simp only [asOf,prodOf,sAt,List.getD_cons_succ,List.getD_cons_zero,List.flatMap_cons,List.flatMap_nil,List.append_nil,List.nil_append,List.cons_append] at H
        simp only [putS,List.foldl_nil]
        go_simp
        first|exact H|exact ⟨rfl,H⟩
       ·intro vals wx X hd H
        have h1:vals 1=.slice (some ⟨g4,0,none⟩) L c4:=hd.1
        have h2:vals 2=.int .i64 (q:Nat):=hd.2.1
        clear hd
        simp only [asOf,prodOf,sAt,List.getD_cons_succ,List.getD_cons_zero,List.flatMap_cons,List.flatMap_nil,List.append_nil,List.nil_append,List.cons_append] at H
        simp only [putS,List.foldl_nil,List.foldl_cons,Act.put,List.setIfInBounds_toArray,List.set_cons_zero,List.set_cons_succ,h1,h2]
        refine StStep.seg3 none (some q) rfl rfl rfl rfl rfl rfl rfl (l:=0) (h:=q) rfl rfl (by have:=HB9.out;omega) (by have:=HB9.out;omega) (m:=q) (by have:=HB9.out;omega) (cr:=c4) (by have:=HB9.out;omega) HC8.out ⟨rfl,H⟩
       ·intro vals wx X hd H
        have h3:vals 3=.slice a1 q c4:=hd.1
        clear hd
        simp only [asOf,prodOf,sAt,List.getD_cons_succ,List.getD_cons_zero,List.flatMap_cons,List.flatMap_nil,List.append_nil,List.nil_append,List.cons_append] at H
        simp only [putS,List.foldl_nil,List.foldl_cons,Act.put,List.setIfInBounds_toArray,List.set_cons_zero,List.set_cons_succ,h3]
        refine StStep.appendP (enc:=encI) (xs:=[]) (ys:=ids2.take q) rfl rfl rfl rfl rfl (by decide) (by decide) rfl rfl H HR8.out (HP8.out _ (H.get (A:=poolA P4) pk)) encI_len encI_one (by have:=HB9.out;omega) HN1.out ?_
        intro ad9 cp9 wz H
        exact ⟨trivial,H⟩
       ·intro vals wx X hd H
        clear hd
        simp only [asOf,prodOf,sAt,List.getD_cons_succ,List.getD_cons_zero,List.flatMap_cons,List.flatMap_nil,List.append_nil,List.nil_append,List.cons_append] at H
        simp only [putS,List.foldl_nil]
        go_simp
        first|exact H|exact ⟨rfl,H⟩
       ·intro vals wx X hd H
        have h5:vals 5=.int .i64 (id5:Nat):=hd.1
        clear hd
        simp only [asOf,prodOf,sAt,List.getD_cons_succ,List.getD_cons_zero,List.flatMap_cons,List.flatMap_nil,List.append_nil,List.nil_append,List.cons_append] at H
        simp only [putS,List.foldl_nil,List.foldl_cons,Act.put,List.setIfInBounds_toArray,List.set_cons_zero,List.set_cons_succ,h5]
        exact StStep.slice1 (enc:=encI) H rfl rfl rfl rfl rfl rfl rfl rfl rfl id5 rfl encI_len fun b w' H=>⟨trivial,H⟩
       ·intro vals wx X hd H
        clear hd
        simp only [asOf,prodOf,sAt,List.getD_cons_succ,List.getD_cons_zero,List.flatMap_cons,List.flatMap_nil,List.append_nil,List.nil_append,List.cons_append] at H
        simp only [putS,List.foldl_nil,List.foldl_cons,Act.put,List.setIfInBounds_toArray,List.set_cons_zero,List.set_cons_succ]
        exact StStep.append (enc:=encI) rfl rfl rfl rfl rfl (by decide) (by decide) rfl rfl H (H.get (A:=rowsA encI 26 1 (vals 6) ([id5])) pk) encI_len encI_one (by simp;omega) fun v' w' H=>⟨trivial,H⟩
       ·intro vals wx X hd H
        clear hd
        simp only [asOf,prodOf,sAt,List.getD_cons_succ,List.getD_cons_zero,List.flatMap_cons,List.flatMap_nil,List.append_nil,List.nil_append,List.cons_append] at H
        simp only [putS,List.foldl_nil]
        go_simp
        first|exact H|exact ⟨rfl,H⟩
       ·intro vals wx X hd H
        clear hd
        simp only [asOf,prodOf,sAt,List.getD_cons_succ,List.getD_cons_zero,List.flatMap_cons,List.flatMap_nil,List.append_nil,List.nil_append,List.cons_append] at H
        simp only [putS,List.foldl_nil]
        go_simp
        first|exact H|exact ⟨rfl,H⟩
       ·intro vals wx X hd H
        have h9:vals 9=.int .i64 (q:Nat):=hd.1
        clear hd
        simp only [asOf,prodOf,sAt,List.getD_cons_succ,List.getD_cons_zero,List.flatMap_cons,List.flatMap_nil,List.append_nil,List.nil_append,List.cons_append] at H
        simp only [putS,List.foldl_nil,List.foldl_cons,Act.put,List.setIfInBounds_toArray,List.set_cons_zero,List.set_cons_succ,h9]
        go_simp
        exact ⟨IntWalk.i64_in _ (by omega),H⟩
       ·intro vals wx X hd H
        have h8:vals 8=.slice (some ⟨g4,0,none⟩) L c4:=hd.1
        have h10:vals 10=.int .i64 (q2:Nat):=hd.2.1
        clear hd
        simp only [asOf,prodOf,sAt,List.getD_cons_succ,List.getD_cons_zero,List.flatMap_cons,List.flatMap_nil,List.append_nil,List.nil_append,List.cons_append] at H
        simp only [putS,List.foldl_nil,List.foldl_cons,Act.put,List.setIfInBounds_toArray,List.set_cons_zero,List.set_cons_succ,h8,h10]
        refine StStep.seg3 (some q2) none rfl rfl rfl rfl rfl rfl rfl (l:=q2) (h:=L) rfl rfl (by have:=HB9.out;omega) (by have:=HB9.out;omega) (m:=m2) (by have:=HB9.out;omega) (cr:=c2) (by have:=HB9.out;omega) HC9.out ⟨rfl,H⟩
       ·intro vals wx X hd H
        have h11:vals 11=.slice a2 m2 c2:=hd.1
        clear hd
        simp only [asOf,prodOf,sAt,List.getD_cons_succ,List.getD_cons_zero,List.flatMap_cons,List.flatMap_nil,List.append_nil,List.nil_append,List.cons_append] at H
        simp only [putS,List.foldl_nil,List.foldl_cons,Act.put,List.setIfInBounds_toArray,List.set_cons_zero,List.set_cons_succ,h11]
        refine StStep.appendP (enc:=encI) (xs:=(ids2.take q++[id5])) (ys:=ids2.drop q2) rfl rfl rfl rfl rfl (by decide) (by decide) rfl rfl H HR9.out (HP9.out _ (H.get (A:=poolA P4) pk)) encI_len encI_one (by have:=HB9.out;omega) HN3.out ?_
        intro ad9 cp9 wz H
        exact ⟨trivial,H⟩
       intro vals wx hd H
       have h1:vals 1=.slice (some ⟨g4,0,none⟩) L c4:=hd.2.1
       have h2:vals 2=.int .i64 (q:Nat):=hd.2.2.1
       have h3:vals 3=.slice a1 q c4:=hd.2.2.2.1
       have h5:vals 5=.int .i64 (id5:Nat):=hd.2.2.2.2.2.1
       have h8:vals 8=.slice (some ⟨g4,0,none⟩) L c4:=hd.2.2.2.2.2.2.2.2.1
       have h9:vals 9=.int .i64 (q:Nat):=hd.2.2.2.2.2.2.2.2.2.1
       have h10:vals 10=.int .i64 (q2:Nat):=hd.2.2.2.2.2.2.2.2.2.2.1
       have h11:vals 11=.slice a2 m2 c2:=hd.2.2.2.2.2.2.2.2.2.2.2.1
       clear hd
       simp only [asOf,prodOf,sAt,List.getD_cons_succ,List.getD_cons_zero,List.flatMap_cons,List.flatMap_nil,List.append_nil,List.nil_append,List.cons_append] at H
       simp only [putS,List.foldl_nil,List.foldl_cons,Act.put,List.setIfInBounds_toArray,List.set_cons_zero,List.set_cons_succ,List.drop_succ_cons,List.drop_zero,h1,h2,h3,h5,h8,h9,h10,h11]
       clear h1 h2 h3 h5 h8 h9 h10 h11
       go_wp2_with (first|refine sL ?_|(refine sS ?_;clear H;intros;rename_i H))
       go_roundg L1
       case measure=>have:=HMM.out;have:=HLL.out;omega
       case rel =>
        obtain ⟨h1,h2,h3,h4,h5,h6,h7,_⟩:=HRL.out
        obtain ⟨y1,y2,y3,y4⟩:=HY.out
        have hs:=HSP.out
        have hl:=HLL.out
        have hb:=HB9.out
        have hlen:((ids2.take q++[id5])++ids2.drop q2).length=L1:=by rw [List.length_append];exact HN3.out
        refine ⟨k+1,X5,(ids2.take q++[id5])++ids2.drop q2,hlen.symm,by go_num,⟨h1.trans y1,y2,by omega,by omega,by omega,h6.le h2.ok y1.le,h7.le h2.ok y1.le,?_⟩,H.picks (.cons (A:=pA X5) pk (.cons (A:=blk bm (.cells #[.pointer (some ⟨X0.p,0,none⟩),.map (some mp)] 138)) pk (.cons (A:=mapA Tryz.prog 26 mp (([]:List (Nat×Nat)).map encK)) pk (.cons (A:=rowsA encI 26 1 (vals 12) ((ids2.take q++[id5])++ids2.drop q2)) pk .nil))))⟩
        have hq:=hs.2.2.1.le h2.ok y1.le
        refine ⟨(us.take q++[.pair ta tb])++us.drop q2,((hq.take q).snoc y4).append (hq.drop q2),?_⟩
        have e:=row_split hs.1 (by rw [← hs.2.2.2.2.1];exact hs.2.1)
        have hf:=hs.2.2.2.1
        rw [e] at hf
        rw [← hf,show q2=q+2 by omega]
        simp [Tr.txt]
     ·have d3:decide ((k:Int)<(m:Int))=false:=by simp;omega
      have d3n:decide (k<m)=false:=by simp;omega
      go_wp2_with (first|refine sL ?_|(refine sS ?_;clear H;intros;rename_i H))
      obtain ⟨q,hq0,hqL⟩:∃ q:Nat,(0:Int)=(q:Nat)∧q<L1:=⟨0,rfl,by have:=HLL.out;omega⟩
      rw [hq0]
      clear hq0
      obtain ⟨q1,hq1⟩:∃ q1,q1=q+1:=⟨_,rfl⟩
      have i10:(q:Int)+1=(q1:Nat):=by omega
      have hik9:q<L:=by have:=HLL.out;omega
      have hik8:q1<L:=by have:=HLL.out;omega
      have d7:decide ((q1:Int)<(L:Int))=true:=by simp;omega
      have d7n:decide (q1<L)=true:=by simp;omega
      obtain ⟨us,hus,hfl⟩:=HRL.out.2.2.2.2.2.2.2
      obtain ⟨a,ha⟩:∃ a,ids2[q]?=some a:=⟨_,List.getElem?_eq_getElem (by have:=HLL.out;omega)⟩
      obtain ⟨b,hb⟩:∃ a,ids2[q1]?=some a:=⟨_,List.getElem?_eq_getElem (by have:=HLL.out;omega)⟩
      obtain ⟨ta,hta,hda⟩:=hus.get ha
      obtain ⟨tb,htb,hdb⟩:=hus.get hb
      have HA1:Hid (∀ w,(rowsA encI 26 1 (.slice (some ⟨g4,0,none⟩) L c4) ids2).ho w→w.cell? ⟨g4,q,none⟩=some (.int .i64 (a:Nat))):=Lib.hid fun w h=>by
       have:=rowsA_cell h encI_len (j:=0) ha rfl
       simpa using this
      have HA2:Hid (∀ w,(rowsA encI 26 1 (.slice (some ⟨g4,0,none⟩) L c4) ids2).ho w→w.cell? ⟨g4,q1,none⟩=some (.int .i64 (b:Nat))):=Lib.hid fun w h=>by
       have:=rowsA_cell h encI_len (j:=0) hb rfl
       simpa using this
      have HSP:Hid (us[q]?=some ta∧us[q1]?=some tb∧DenL X2.S ids2 us∧(us.map Tr.txt).flatten=text∧q1=q+1∧q1<L):=Lib.hid ⟨hta,htb,hus,hfl,hq1,hik8⟩
      have HJ:Hid (∀ w,(pA X2).ho w→Calls Tryz.prog 43 #[.pointer (some ⟨X0.s,0,none⟩),.int .i64 a,.int .i64 b] w (RPost X2 (fun S id=>Den S id (.pair ta tb)) (pA X2).fp w)):=Lib.hid fun w h=>by
       obtain ⟨h1,h2,h3,h4,_⟩:=HRL.out
       have hl9:=row_len (by rw [hq1] at htb;exact htb) hta hfl
       have hq9:=HQ.out
       rw [← h1.s]
       exact mpost_room (by rw [h1.le.1,HX0.out.2];simp only;omega) (fun S id h=>h) (pair_p hda hdb (by have:=HIN.out.2.2.2.1;simp [maxT];omega) h2 w h)
      clear hta htb hda hdb hus hfl ha hb hq1
      replace H:=H.picks (.cons (A:=pA X2) pk (.cons (A:=blk bm (.cells #[.pointer (some ⟨X0.p,0,none⟩),.map (some mp)] 138)) pk (.cons (A:=mapA Tryz.prog 26 mp (([]:List (Nat×Nat)).map encK)) pk (.cons (A:=rowsA encI 26 1 (.slice (some ⟨g4,0,none⟩) L c4) ids2) pk .nil))))
      refine wp_region_sgx 16 [⟨[],fun v _=>v=.pointer (some ⟨X0.s,0,none⟩)⟩,⟨[],fun v _=>v=.slice (some ⟨g4,0,none⟩) L c4⟩,⟨[],fun v _=>v=.int .i64 (q:Nat)⟩,⟨[1,2],fun v _=>v=.pointer (some ⟨g4,q,none⟩)⟩,⟨[3],fun v _=>v=.int .i64 (a:Nat)⟩,⟨[],fun v _=>v=.slice (some ⟨g4,0,none⟩) L c4⟩,⟨[],fun v _=>v=.int .i64 (q:Nat)⟩,⟨[6],fun v _=>v=.int .i64 (q1:Nat)⟩,⟨[5,7],fun v _=>v=.pointer (some ⟨g4,q1,none⟩)⟩,⟨[8],fun v _=>v=.int .i64 (b:Nat)⟩,⟨[0,4,9],fun v _=>∃ id:Nat,v=.tuple #[.int .i64 id,.nilIface]⟩,⟨[10],fun v ds=>ds=[v]⟩,⟨[11],fun v ds=>∃ id:Nat,ds=[.tuple #[.int .i64 id,.nilIface]]∧v=.int .i64 id⟩,⟨[11],fun v ds=>∃ id:Nat,ds=[.tuple #[.int .i64 id,.nilIface]]∧v=.nilIface⟩,⟨[12],fun v ds=>ds=[v]⟩,⟨[13],fun v ds=>ds=[v]⟩] [10] [[0],[0],[0],[0],[0],[0],[0],[0],[0],[0],[0],[1],[1],[1],[1],[1]] [fun _ wx=>St w [] [pA X2,blk bm (.cells #[.pointer (some ⟨X0.p,0,none⟩),.map (some mp)] 138),mapA Tryz.prog 26 mp (([]:List (Nat×Nat)).map encK),rowsA encI 26 1 (.slice (some ⟨g4,0,none⟩) L c4) ids2] wx,fun vals wx=>∃ (X5:Px) (id:Nat),vals 10=.tuple #[.int .i64 id,.nilIface]∧(X2.Ext X5∧PxOk X5∧X5.S.list.length≤X2.S.list.length+1∧Den X5.S id (.pair ta tb))∧St w [] [pA X5,blk bm (.cells #[.pointer (some ⟨X0.p,0,none⟩),.map (some mp)] 138),mapA Tryz.prog 26 mp (([]:List (Nat×Nat)).map encK),rowsA encI 26 1 (.slice (some ⟨g4,0,none⟩) L c4) ids2] wx]
       [[],[],[],[(1,138),(2,139)],[(3,140)],[],[],[(6,143)],[(5,142),(7,144)],[(8,145)],[(0,137),(4,141),(9,146)],[(10,147)],[(11,136)],[(11,136)],[(12,148)],[(13,149)]] [(0,137),(1,138),(2,139),(3,140),(4,141),(5,142),(6,143),(7,144),(8,145),(9,146),(10,147),(11,136),(12,148),(13,149),(14,23),(15,24)] (by kernel_rfl) (by kernel_rfl) H.drew ⟨⟨qo,trivial⟩,⟨qo,trivial⟩,⟨qo,trivial⟩,⟨?_,trivial⟩,⟨ql,trivial⟩,⟨qo,trivial⟩,⟨qo,trivial⟩,⟨qo,trivial⟩,⟨?_,trivial⟩,⟨ql,trivial⟩,⟨?_,trivial⟩,⟨?_,trivial⟩,⟨?_,trivial⟩,⟨?_,trivial⟩,⟨?_,trivial⟩,⟨?_,trivial⟩,trivial⟩ ?_
      ·intro vals wx hd HC
       simp only [GF] at hd
       have H:=HC
       simp only [CA] at H
       simp only [PS,hd]
       go_simp
       first|exact HC|exact ⟨rfl,HC⟩|(rw [if_pos hik9];exact ⟨rfl,HC⟩)
      ·intro vals wx hd HC
       simp only [GF] at hd
       have H:=HC
       simp only [CA] at H
       simp only [PS,hd]
       go_simp
       first|exact HC|exact ⟨rfl,HC⟩|(rw [if_pos hik8];exact ⟨rfl,HC⟩)
      ·intro vals wx hd HC
       simp only [GF] at hd
       obtain ⟨h0,h4,h9⟩:=hd
       have H:=HC
       simp only [CA] at H
       simp only [PS,h0,h4,h9]
       clear h0 h4 h9 HC
       go_simp
       with_reducible refine Calls.mono (HJ.out _ (H.get (A:=pA X2) pk)) ?_
       rintro e wz ⟨X5,id5,rfl,y1,y2,y3,y4,hb⟩
       have H2:=(H.pick (A:=pA X2) pk).call hb
       exact ⟨_,rfl,⟨_,rfl⟩,X5,id5,rfl,⟨y1,y2,y3,y4⟩,by simpa using H2⟩
      ·intro vals wx hd HC
       simp only [GF] at hd
       have h10:=hd
       clear hd
       have H:=HC
       simp only [CA] at H
       obtain ⟨X5,id5,hv10,hj5,H⟩:=H
       simp only [PS]
       clear h10
       go_simp
       first|exact HC|exact ⟨rfl,HC⟩
      ·intro vals wx hd HC
       simp only [GF] at hd
       have h11:=hd
       clear hd
       have H:=HC
       simp only [CA] at H
       obtain ⟨X5,id5,hv10,hj5,H⟩:=H
       simp only [PS]
       have e11:vals 11=.tuple #[.int .i64 id5,.nilIface]:=by rw [← hv10];exact X8 (show [vals 10]=[vals 11] from h11)
       simp only [e11]
       clear h11
       go_simp
       first|exact ⟨⟨id5,by simp [e11],rfl⟩,HC⟩|exact ⟨⟨id5,rfl⟩,HC⟩|exact ⟨rfl,HC⟩|exact HC|exact ⟨⟨⟨id5,rfl⟩,rfl⟩,HC⟩|exact ⟨⟨id5,rfl,rfl⟩,HC⟩|fail "Z9"
      ·intro vals wx hd HC
       simp only [GF] at hd
       have h11:=hd
       clear hd
       have H:=HC
       simp only [CA] at H
       obtain ⟨X5,id5,hv10,hj5,H⟩:=H
       simp only [PS]
       have e11:vals 11=.tuple #[.int .i64 id5,.nilIface]:=by rw [← hv10];exact X8 (show [vals 10]=[vals 11] from h11)
       simp only [e11]
       clear h11
       go_simp
       first|exact ⟨⟨id5,by simp [e11],rfl⟩,HC⟩|exact ⟨⟨id5,rfl⟩,HC⟩|exact ⟨rfl,HC⟩|exact HC|exact ⟨⟨⟨id5,rfl⟩,rfl⟩,HC⟩|exact ⟨⟨id5,rfl,rfl⟩,HC⟩|fail "Z9"
      ·intro vals wx hd HC
       simp only [GF] at hd
       have h12:=hd
       clear hd
       have H:=HC
       simp only [CA] at H
       obtain ⟨X5,id5,hv10,hj5,H⟩:=H
       simp only [PS]
       clear h12
       go_simp
       first|exact HC|exact ⟨rfl,HC⟩
      ·intro vals wx hd HC
       simp only [GF] at hd
       have h13:=hd
       clear hd
       have H:=HC
       simp only [CA] at H
       obtain ⟨X5,id5,hv10,hj5,H⟩:=H
       simp only [PS]
       clear h13
       go_simp
       first|exact HC|exact ⟨rfl,HC⟩
      intro vals wx hd HC
      have h10:=hd.2.2.2.2.2.2.2.2.2.2.1
      have h11:=hd.2.2.2.2.2.2.2.2.2.2.2.1
      have h12:=hd.2.2.2.2.2.2.2.2.2.2.2.2.1
      have h13:=hd.2.2.2.2.2.2.2.2.2.2.2.2.2.1
      have h14:=hd.2.2.2.2.2.2.2.2.2.2.2.2.2.2.1
      have h15:=hd.2.2.2.2.2.2.2.2.2.2.2.2.2.2.2.1
      simp only [CA] at HC
      obtain ⟨X5,id5,hv10,hj5,H⟩:=HC
      simp only [GF] at hd
      simp only [PS,hd]
      clear hd
      have e11:vals 11=.tuple #[.int .i64 id5,.nilIface]:=by rw [← hv10];exact X8 (show [vals 10]=[vals 11] from h11)
      have e14:vals 14=.int .i64 id5:=by
       obtain ⟨q,q1,q2⟩:=(h12:∃ id:Nat,[vals 11]=[.tuple #[.int .i64 id,.nilIface]]∧vals 12=.int .i64 id)
       replace q1:[vals 11]=[Value.tuple #[.int .i64 q,.nilIface]]:=q1
       rw [e11] at q1
       simp only [List.cons.injEq,and_true,Value.tuple.injEq,Array.mk.injEq,Value.int.injEq,true_and] at q1
       rw [X8 (show [vals 12]=[vals 14] from h14),q2,q1]
      have e15:vals 15=.nilIface:=by
       obtain ⟨q,q1,q2⟩:=(h13:∃ id:Nat,[vals 11]=[.tuple #[.int .i64 id,.nilIface]]∧vals 13=.nilIface)
       rw [X8 (show [vals 13]=[vals 15] from h15),q2]
      simp only [e14,e15]
      have HY:=Lib.hid hj5
      clear e11 e14 e15 h10 h11 h12 h13 h14 h15 hv10 hj5
      go_wp2_with (first|refine sL ?_|(refine sS ?_;clear H;intros;rename_i H))
      obtain ⟨P4,hr4,H2⟩:=St.to_pool (H.pick (A:=rowsA encI 26 1 (.slice (some ⟨g4,0,none⟩) L c4) ids2) pk) encI_len
      obtain ⟨q2,hq2⟩:∃ k,q+2=k:=⟨_,rfl⟩
      obtain ⟨m2,hm2⟩:∃ k,L-q2=k:=⟨_,rfl⟩
      obtain ⟨c2,hc2⟩:∃ k,c4-q2=k:=⟨_,rfl⟩
      have hil:=HLL.out.2.2
      have hs9:=HSP.out.2.2.2.2
      have hr5:RowIn P4 encI 1 (.slice (some ⟨g4,0,none⟩) ids2.length c4) ids2:=by rw [hil];exact hr4
      obtain ⟨a1,P8,hA8,hP8,hR8⟩:=row_seg hr5 (by omega) 0 q (by omega)
      obtain ⟨a2,P9,hA9,hP9,hR9⟩:=row_seg hr5 (by omega) q2 m2 (by omega)
      rw [List.drop_zero] at hR8
      rw [List.take_of_length_le (by simp;omega),hc2] at hR9
      have i11:(q:Int)+2=(q2:Nat):=by omega
      have l1:(ids2.take q).length=q:=by simp;omega
      have l2:(ids2.drop q2).length=m2:=by simp;omega
      have HN1:Hid (([]:List Nat).length+(ids2.take q).length=q):=Lib.hid (by rw [l1];simp)
      have HN3:Hid ((ids2.take q++[id5]).length+(ids2.drop q2).length=L1):=Lib.hid (by rw [l2];simp;have:=HLL.out;omega)
      have HB9:Hid (q≤q2∧q2≤L∧L≤c4∧L≤64∧L-q2=m2∧c4-q2=c2∧q+2=q2∧(ids2.take q).length=q∧(ids2.drop q2).length=m2∧([]:List Nat).length=0∧(ids2.take q++[id5]).length=q+1):=Lib.hid ⟨by omega,by omega,hc4,by omega,hm2,hc2,hq2,l1,l2,rfl,by simp;omega⟩
      have HC8:=Lib.hid hA8
      have HC9:=Lib.hid hA9
      have HP8:=Lib.hid hP8
      have HP9:=Lib.hid hP9
      have HR8:=Lib.hid hR8
      have HR9:=Lib.hid hR9
      have hqb:q≤64∧q2≤64∧m2≤64:=by omega
      have l3:(ids2.take q).length≤64:=by omega
      clear H hil hs9 hr4 hr5 hA8 hA9 hP8 hP9 hR8 hR9 hq2 hm2 hc2 l1 l2
      have H:=H2.picks (.cons (A:=poolA P4) pk (.cons (A:=pA X5) pk (.cons (A:=blk bm (.cells #[.pointer (some ⟨X0.p,0,none⟩),.map (some mp)] 138)) pk (.cons (A:=mapA Tryz.prog 26 mp (([]:List (Nat×Nat)).map encK)) pk .nil))))
      clear H2
      refine wp_region_rgx H [pA X5,blk bm (.cells #[.pointer (some ⟨X0.p,0,none⟩),.map (some mp)] 138),mapA Tryz.prog 26 mp (([]:List (Nat×Nat)).map encK)] 13 [⟨[],[],[],fun _ _=>True,fun v _=>[rowsA encI 26 1 (v) (([]:List Nat))]⟩,⟨[],[],[],fun v _=>v=.slice (some ⟨g4,0,none⟩) L c4,fun _ _=>[]⟩,⟨[],[],[],fun v _=>v=.int .i64 (q:Nat),fun _ _=>[]⟩,⟨[],[],[1,2],fun v _=>v=.slice a1 q c4,fun _ _=>[]⟩,⟨[0],[13],[3],fun _ _=>True,fun v _=>[rowsA encI 26 1 (v) (ids2.take q)]⟩,⟨[],[],[],fun v _=>v=.int .i64 (id5:Nat),fun _ _=>[]⟩,⟨[],[],[5],fun _ _=>True,fun v _=>[rowsA encI 26 1 (v) ([id5])]⟩,⟨[4],[6],[],fun _ _=>True,fun v _=>[rowsA encI 26 1 (v) (ids2.take q++[id5])]⟩,⟨[],[],[],fun v _=>v=.slice (some ⟨g4,0,none⟩) L c4,fun _ _=>[]⟩,⟨[],[],[],fun v _=>v=.int .i64 (q:Nat),fun _ _=>[]⟩,⟨[],[],[9],fun v _=>v=.int .i64 (q2:Nat),fun _ _=>[]⟩,⟨[],[],[8,10],fun v _=>v=.slice a2 m2 c2,fun _ _=>[]⟩,⟨[7],[13],[11],fun _ _=>True,fun v _=>[rowsA encI 26 1 (v) ((ids2.take q++[id5])++ids2.drop q2)]⟩,⟨[],[],[],fun _ _=>True,fun _ _=>[poolA P4]⟩] (by kernel_rfl)
       [[],[],[],[(1,153),(2,154)],[(0,152),(3,155)],[],[(5,157)],[(4,156),(6,158)],[],[],[(9,161)],[(8,160),(10,162)],[(7,159),(11,163)]] [(0,152),(1,153),(2,154),(3,155),(4,156),(5,157),(6,158),(7,159),(8,160),(9,161),(10,162),(11,163),(12,164)] [13,1,2,3,5,6,8,9,10,11,12] (by kernel_rfl) (by kernel_rfl) (by kernel_rfl) ⟨?_,?_,?_,?_,?_,?_,?_,?_,?_,?_,?_,?_,?_,trivial⟩ ?_
      ·intro vals wx X hd H
       clear hd
       simp only [asOf,prodOf,sAt,List.getD_cons_succ,List.getD_cons_zero,List.flatMap_cons,List.flatMap_nil,List.append_nil,List.nil_append,List.cons_append] at H
       simp only [putS,List.foldl_nil]
       exact StStep.slice0 (enc:=encI) H rfl rfl rfl rfl encI_len fun b w' H=>⟨trivial,H⟩
      ·intro vals wx X hd H
       clear hd
       simp only [asOf,prodOf,sAt,List.getD_cons_succ,List.getD_cons_zero,List.flatMap_cons,List.flatMap_nil,List.append_nil,List.nil_append,List.cons_append] at H
       simp only [putS,List.foldl_nil]
       go_simp
       first|exact H|exact ⟨rfl,H⟩
      ·intro vals wx X hd H
       clear hd
       simp only [asOf,prodOf,sAt,List.getD_cons_succ,List.getD_cons_zero,List.flatMap_cons,List.flatMap_nil,List.append_nil,List.nil_append,List.cons_append] at H
       simp only [putS,List.foldl_nil]
       go_simp
       first|exact H|exact ⟨rfl,H⟩
      ·intro vals wx X hd H
       have h1:vals 1=.slice (some ⟨g4,0,none⟩) L c4:=hd.1
       have h2:vals 2=.int .i64 (q:Nat):=hd.2.1
       clear hd
       simp only [asOf,prodOf,sAt,List.getD_cons_succ,List.getD_cons_zero,List.flatMap_cons,List.flatMap_nil,List.append_nil,List.nil_append,List.cons_append] at H
       simp only [putS,List.foldl_nil,List.foldl_cons,Act.put,List.setIfInBounds_toArray,List.set_cons_zero,List.set_cons_succ,h1,h2]
       refine StStep.seg3 none (some q) rfl rfl rfl rfl rfl rfl rfl (l:=0) (h:=q) rfl rfl (by have:=HB9.out;omega) (by have:=HB9.out;omega) (m:=q) (by have:=HB9.out;omega) (cr:=c4) (by have:=HB9.out;omega) HC8.out ⟨rfl,H⟩
      ·intro vals wx X hd H
       have h3:vals 3=.slice a1 q c4:=hd.1
       clear hd
       simp only [asOf,prodOf,sAt,List.getD_cons_succ,List.getD_cons_zero,List.flatMap_cons,List.flatMap_nil,List.append_nil,List.nil_append,List.cons_append] at H
       simp only [putS,List.foldl_nil,List.foldl_cons,Act.put,List.setIfInBounds_toArray,List.set_cons_zero,List.set_cons_succ,h3]
       refine StStep.appendP (enc:=encI) (xs:=[]) (ys:=ids2.take q) rfl rfl rfl rfl rfl (by decide) (by decide) rfl rfl H HR8.out (HP8.out _ (H.get (A:=poolA P4) pk)) encI_len encI_one (by have:=HB9.out;omega) HN1.out ?_
       intro ad9 cp9 wz H
       exact ⟨trivial,H⟩
      ·intro vals wx X hd H
       clear hd
       simp only [asOf,prodOf,sAt,List.getD_cons_succ,List.getD_cons_zero,List.flatMap_cons,List.flatMap_nil,List.append_nil,List.nil_append,List.cons_append] at H
       simp only [putS,List.foldl_nil]
       go_simp
       first|exact H|exact ⟨rfl,H⟩
      ·intro vals wx X hd H
       have h5:vals 5=.int .i64 (id5:Nat):=hd.1
       clear hd
       simp only [asOf,prodOf,sAt,List.getD_cons_succ,List.getD_cons_zero,List.flatMap_cons,List.flatMap_nil,List.append_nil,List.nil_append,List.cons_append] at H
       simp only [putS,List.foldl_nil,List.foldl_cons,Act.put,List.setIfInBounds_toArray,List.set_cons_zero,List.set_cons_succ,h5]
       exact StStep.slice1 (enc:=encI) H rfl rfl rfl rfl rfl rfl rfl rfl rfl id5 rfl encI_len fun b w' H=>⟨trivial,H⟩
      ·intro vals wx X hd H
       clear hd
       simp only [asOf,prodOf,sAt,List.getD_cons_succ,List.getD_cons_zero,List.flatMap_cons,List.flatMap_nil,List.append_nil,List.nil_append,List.cons_append] at H
       simp only [putS,List.foldl_nil,List.foldl_cons,Act.put,List.setIfInBounds_toArray,List.set_cons_zero,List.set_cons_succ]
       exact StStep.append (enc:=encI) rfl rfl rfl rfl rfl (by decide) (by decide) rfl rfl H (H.get (A:=rowsA encI 26 1 (vals 6) ([id5])) pk) encI_len encI_one (by simp;omega) fun v' w' H=>⟨trivial,H⟩
      ·intro vals wx X hd H
       clear hd
       simp only [asOf,prodOf,sAt,List.getD_cons_succ,List.getD_cons_zero,List.flatMap_cons,List.flatMap_nil,List.append_nil,List.nil_append,List.cons_append] at H
       simp only [putS,List.foldl_nil]
       go_simp
       first|exact H|exact ⟨rfl,H⟩
      ·intro vals wx X hd H
       clear hd
       simp only [asOf,prodOf,sAt,List.getD_cons_succ,List.getD_cons_zero,List.flatMap_cons,List.flatMap_nil,List.append_nil,List.nil_append,List.cons_append] at H
       simp only [putS,List.foldl_nil]
       go_simp
       first|exact H|exact ⟨rfl,H⟩
      ·intro vals wx X hd H
       have h9:vals 9=.int .i64 (q:Nat):=hd.1
       clear hd
       simp only [asOf,prodOf,sAt,List.getD_cons_succ,List.getD_cons_zero,List.flatMap_cons,List.flatMap_nil,List.append_nil,List.nil_append,List.cons_append] at H
       simp only [putS,List.foldl_nil,List.foldl_cons,Act.put,List.setIfInBounds_toArray,List.set_cons_zero,List.set_cons_succ,h9]
       go_simp
       exact ⟨IntWalk.i64_in _ (by omega),H⟩
      ·intro vals wx X hd H
       have h8:vals 8=.slice (some ⟨g4,0,none⟩) L c4:=hd.1
       have h10:vals 10=.int .i64 (q2:Nat):=hd.2.1
       clear hd
       simp only [asOf,prodOf,sAt,List.getD_cons_succ,List.getD_cons_zero,List.flatMap_cons,List.flatMap_nil,List.append_nil,List.nil_append,List.cons_append] at H
       simp only [putS,List.foldl_nil,List.foldl_cons,Act.put,List.setIfInBounds_toArray,List.set_cons_zero,List.set_cons_succ,h8,h10]
       refine StStep.seg3 (some q2) none rfl rfl rfl rfl rfl rfl rfl (l:=q2) (h:=L) rfl rfl (by have:=HB9.out;omega) (by have:=HB9.out;omega) (m:=m2) (by have:=HB9.out;omega) (cr:=c2) (by have:=HB9.out;omega) HC9.out ⟨rfl,H⟩
      ·intro vals wx X hd H
       have h11:vals 11=.slice a2 m2 c2:=hd.1
       clear hd
       simp only [asOf,prodOf,sAt,List.getD_cons_succ,List.getD_cons_zero,List.flatMap_cons,List.flatMap_nil,List.append_nil,List.nil_append,List.cons_append] at H
       simp only [putS,List.foldl_nil,List.foldl_cons,Act.put,List.setIfInBounds_toArray,List.set_cons_zero,List.set_cons_succ,h11]
       refine StStep.appendP (enc:=encI) (xs:=(ids2.take q++[id5])) (ys:=ids2.drop q2) rfl rfl rfl rfl rfl (by decide) (by decide) rfl rfl H HR9.out (HP9.out _ (H.get (A:=poolA P4) pk)) encI_len encI_one (by have:=HB9.out;omega) HN3.out ?_
       intro ad9 cp9 wz H
       exact ⟨trivial,H⟩
      intro vals wx hd H
      have h1:vals 1=.slice (some ⟨g4,0,none⟩) L c4:=hd.2.1
      have h2:vals 2=.int .i64 (q:Nat):=hd.2.2.1
      have h3:vals 3=.slice a1 q c4:=hd.2.2.2.1
      have h5:vals 5=.int .i64 (id5:Nat):=hd.2.2.2.2.2.1
      have h8:vals 8=.slice (some ⟨g4,0,none⟩) L c4:=hd.2.2.2.2.2.2.2.2.1
      have h9:vals 9=.int .i64 (q:Nat):=hd.2.2.2.2.2.2.2.2.2.1
      have h10:vals 10=.int .i64 (q2:Nat):=hd.2.2.2.2.2.2.2.2.2.2.1
      have h11:vals 11=.slice a2 m2 c2:=hd.2.2.2.2.2.2.2.2.2.2.2.1
      clear hd
      simp only [asOf,prodOf,sAt,List.getD_cons_succ,List.getD_cons_zero,List.flatMap_cons,List.flatMap_nil,List.append_nil,List.nil_append,List.cons_append] at H
      simp only [putS,List.foldl_nil,List.foldl_cons,Act.put,List.setIfInBounds_toArray,List.set_cons_zero,List.set_cons_succ,List.drop_succ_cons,List.drop_zero,h1,h2,h3,h5,h8,h9,h10,h11]
      clear h1 h2 h3 h5 h8 h9 h10 h11
      go_wp2_with (first|refine sL ?_|(refine sS ?_;clear H;intros;rename_i H))
      go_roundg L1
      case measure=>have:=HMM.out;have:=HLL.out;omega
      case rel =>
       obtain ⟨h1,h2,h3,h4,h5,h6,h7,_⟩:=HRL.out
       obtain ⟨y1,y2,y3,y4⟩:=HY.out
       have hs:=HSP.out
       have hl:=HLL.out
       have hb:=HB9.out
       have hlen:((ids2.take q++[id5])++ids2.drop q2).length=L1:=by rw [List.length_append];exact HN3.out
       refine ⟨k+1,X5,(ids2.take q++[id5])++ids2.drop q2,hlen.symm,by go_num,⟨h1.trans y1,y2,by omega,by omega,by omega,h6.le h2.ok y1.le,h7.le h2.ok y1.le,?_⟩,H.picks (.cons (A:=pA X5) pk (.cons (A:=blk bm (.cells #[.pointer (some ⟨X0.p,0,none⟩),.map (some mp)] 138)) pk (.cons (A:=mapA Tryz.prog 26 mp (([]:List (Nat×Nat)).map encK)) pk (.cons (A:=rowsA encI 26 1 (vals 12) ((ids2.take q++[id5])++ids2.drop q2)) pk .nil))))⟩
       have hq:=hs.2.2.1.le h2.ok y1.le
       refine ⟨(us.take q++[.pair ta tb])++us.drop q2,((hq.take q).snoc y4).append (hq.drop q2),?_⟩
       have e:=row_split hs.1 (by rw [← hs.2.2.2.2.1];exact hs.2.1)
       have hf:=hs.2.2.2.1
       rw [e] at hf
       rw [← hf,show q2=q+2 by omega]
       simp [Tr.txt]
    ·have d1:decide ((1:Int)<(L:Int))=false:=by simp;omega
     have d1n:decide (1<L)=false:=by simp;omega
     have h1:=hrel
     obtain ⟨z,hz⟩:∃ z,ids2=[z]:=by
      match ids2,hL,h1.2.2.2.2.1 with
      |[z],_,_=>exact ⟨z,rfl⟩
      |[],_,h=>simp at h
      |_::_::_,h,_=>simp at h;omega
     subst hz
     have hL1:L=1:=by simp at hL;omega
     subst hL1
     have HZ0:Hid (∀ w,(rowsA encI 26 1 (.slice (some ⟨g4,0,none⟩) 1 c4) [z]).ho w→w.cell? ⟨g4,0,none⟩=some (.int .i64 z)):=Lib.hid fun w h=>by
      have:=rowsA_cell h encI_len (i:=0) (j:=0) (x:=z) rfl rfl
      simpa using this
     have HY:Hid (X0.Ext X2∧PxOk X2∧(X2.S.list.length≤320∧text.length≤64)∧∀ x∈[l,r,z],1≤x∧x≤X2.S.list.length∧(X2.S.tr x).txt=text):=Lib.hid (by
      obtain ⟨g1,g2,g3,g4,g5,g6,g7,us,g8,g9⟩:=h1
      have hq:=HQ.out
      have htne:text≠[]:=fun e=>by have:=HIN.out.2.2.2.1;rw [e] at this;simp at this;omega
      refine ⟨g1,g2,⟨by omega,by have:=HIN.out.2.2.2.1;omega⟩,fun x hx=>?_⟩
      have hx2:TxtIs X2.S x text:=by
       simp only [List.mem_cons,List.not_mem_nil,or_false] at hx
       rcases hx with rfl|rfl|rfl
       ·exact g6
       ·exact g7
       ·match us,g8 with
        |[u],g8=>exact .inr ⟨u,g8.1,by simpa using g9⟩
        |[],g8=>exact absurd g8 (by simp [DenL])
        |_::_::_,g8=>exact absurd g8.2 (by simp [DenL])
      rcases hx2 with ⟨e,_⟩|⟨t,k1,k2⟩
      ·exact absurd e htne
      ·exact ⟨k1.1,k1.2.1,by rw [k1.2.2];exact k2⟩)
     clear hrel h1 HRL HQ hL hlt
     go_wp2_with (first|refine sL ?_|(refine sS ?_;clear H;intros;rename_i H)|((with_reducible refine isSlice ?_);refine AtSlice.litJ H rfl rfl rfl (cs:=#[.int .i64 l,.int .i64 r,.int .i64 z]) rfl (by decide) (by decide) (by kernel_rfl) ?_;clear H;intro b9 _ H;simp only [Act.put,puA,puB,puC]))
     replace H:=blk_rows (xs:=[l,r,z]) (n:=3) (c:=3) encI_len (H.pick (A:=blk b9 (.cells #[.int .i64 l,.int .i64 r,.int .i64 z] 26)) pk) (Nat.le_refl _) (by decide) rfl rfl (by simp [flatG,encI])
     have HA2:Hid (∀ w,((pA X2).sep ((blk bm (.cells #[.pointer (some ⟨X0.p,0,none⟩),.map (some mp)] 138)).sep (mapA Tryz.prog 26 mp (([]:List (Nat×Nat)).map encK)))).ho w→(((pA X2).sep ((blk bm (.cells #[.pointer (some ⟨X0.p,0,none⟩),.map (some mp)] 138)).sep (mapA Tryz.prog 26 mp (([]:List (Nat×Nat)).map encK)))).sep deA).ho w→(((pA X2).sep ((blk bm (.cells #[.pointer (some ⟨X0.p,0,none⟩),.map (some mp)] 138)).sep (mapA Tryz.prog 26 mp (([]:List (Nat×Nat)).map encK)))).sep (rowsA encI 26 1 (.slice (some ⟨b9,0,none⟩) 3 3) [l,r,z])).ho w→Calls Tryz.prog 44 #[.pointer (some ⟨bm,0,none⟩),.slice (some ⟨b9,0,none⟩) 3 3] w fun e w'=>∃ (X':Px) (ad9:Option Addr) (cp9 y:Nat),e=.returned (.tuple #[.slice ad9 3 cp9,.nilIface])∧St w ((pA X2).sep ((blk bm (.cells #[.pointer (some ⟨X0.p,0,none⟩),.map (some mp)] 138)).sep (mapA Tryz.prog 26 mp (([]:List (Nat×Nat)).map encK)))).fp [pA X',rowsA encI 26 1 (.slice ad9 3 cp9) [y,y,y]] w'):=Lib.hid fun w h hd hr=>by
      obtain ⟨g1,g2,g3,g4⟩:=HY.out
      have hm:X2.S.most=1048576:=by rw [g1.le.1,HX0.out.2]
      have htl:text.length≤64:=g3.2
      rw [← g1.p] at h hd hr
      have:=all_c (X:=X2) (bm:=bm) (mp:=mp) (ids:=[l,r,z]) (n:=3) (K:=[]) g2 rfl (by decide) (fun x hx=>⟨(g4 x hx).1,(g4 x hx).2.1,by rw [← Tr.txt_len,(g4 x hx).2.2];omega⟩) (fun q hq=>by simp at hq) (by omega) (by omega) w h hd hr
      rw [g1.p] at this
      refine this.mono ?_
      rintro e w' ⟨X',v',out,rfl,k1,k2,⟨k3,k4⟩,hb⟩
      obtain ⟨ad9,cp9,rfl,_⟩:=rowsA_shape (hb.get (A:=rowsA encI 26 1 v' out) pk)
      match out,k3 with
      |[p,q,s],_ =>
       have i1:=k4 0 l p rfl rfl
       have i2:=k4 1 r q rfl rfl
       have i3:=k4 2 z s rfl rfl
       rw [(g4 l (by simp)).2.2] at i1
       rw [(g4 r (by simp)).2.2] at i2
       rw [(g4 z (by simp)).2.2] at i3
       obtain rfl:=i1.uniq k2.ok i2
       obtain rfl:=i1.uniq k2.ok i3
       exact ⟨X',ad9,cp9,p,rfl,hb⟩
     clear HY HX0
     go_at_call 44
     with_reducible refine Calls.mono (HA2.out _ ((St.join3 (H.pick3 (A:=pA X2) (B:=blk bm (.cells #[.pointer (some ⟨X0.p,0,none⟩),.map (some mp)] 138)) (C:=mapA Tryz.prog 26 mp (([]:List (Nat×Nat)).map encK)) pk pk pk)).ho _ List.mem_cons_self) ((St.join3 (H.pick3 (A:=pA X2) (B:=blk bm (.cells #[.pointer (some ⟨X0.p,0,none⟩),.map (some mp)] 138)) (C:=mapA Tryz.prog 26 mp (([]:List (Nat×Nat)).map encK)) pk pk pk)).sepK HK .here pk) ((St.join3 (H.pick3 (A:=pA X2) (B:=blk bm (.cells #[.pointer (some ⟨X0.p,0,none⟩),.map (some mp)] 138)) (C:=mapA Tryz.prog 26 mp (([]:List (Nat×Nat)).map encK)) pk pk pk)).sepO (B:=rowsA encI 26 1 (.slice (some ⟨b9,0,none⟩) 3 3) [l,r,z]) .here pk)) ?_
     rintro e9 wc ⟨X3,ad9,cp9,y,rfl,hb⟩
     replace H:=(St.join3 (H.pick3 (A:=pA X2) (B:=blk bm (.cells #[.pointer (some ⟨X0.p,0,none⟩),.map (some mp)] 138)) (C:=mapA Tryz.prog 26 mp (([]:List (Nat×Nat)).map encK)) pk pk pk)).call hb
     clear hb HA2
     simp only [List.cons_append,List.nil_append] at H
     obtain ⟨g9,c9,e9,_⟩:=rowsA_cases (H.get (A:=rowsA encI 26 1 (.slice ad9 3 cp9) [y,y,y]) pk) (by simp)
     injection e9 with e9 e91 e92
     clear e91
     subst e9 e92
     have HE:Hid (∀ (i:Nat) w,i<3→(rowsA encI 26 1 (.slice (some ⟨g9,0,none⟩) 3 cp9) [y,y,y]).ho w→w.cell? ⟨g9,i,none⟩=some (.int .i64 y)):=Lib.hid fun i w hi h=>by
      have:=rowsA_cell h encI_len (i:=i) (j:=0) (x:=y) (by match i,hi with|0,_=>rfl|1,_=>rfl|2,_=>rfl) rfl
      simpa using this
     have HE0:=Lib.hid (HE.out 0 · (by decide))
     have HE1:=Lib.hid (HE.out 1 · (by decide))
     have HE2:=Lib.hid (HE.out 2 · (by decide))
     clear HE
     go_wp2_with (first|refine sL ?_|(refine sS ?_;clear H;intros;rename_i H))
     refine wp_region_h H 25 [] [] (by kernel_rfl) (by kernel_rfl) ?_
     apply Exists.intro
     refine ⟨fun w1 hw1 HX=>?_,fun bs wr Hr=>?_⟩
     ·refine sG ?_
      repeat (first|refine sQ ?_|go_big_quiet_step (fail))
      exact wpQuiet_nil rfl
     clear H
     have H:=Hr
     clear Hr
     replace H:=sH H;refine sT ?_
     replace H:=sH H;refine sT ?_
     go_wp2_with (first|refine sL ?_|(refine sS ?_;clear H;intros;rename_i H))
     go_ret
     exact ⟨rfl,H.nix⟩
end
section
open Go.ChangeShapes Go.WideShapes Go.ChangeAt Go.RowKit Go.Deep
theorem ownK:ownKnob Tryz.prog.godebug=none:=by kernel_rfl
theorem u8_wf {x:Int} (h:(Lit.int .u8 x).wf=true):∃ n:Nat,x=(n:Int)∧n<256:=by
 simp [Lit.wf,IntKind.min,IntKind.max,IntKind.signed,IntKind.bits] at h
 exact ⟨x.toNat,by omega,by omega⟩
section
variable {H:Type} {enc:TypeId×Value→H} {w:World} {base:Nat} {spare:Nat→Bool} {held:Bool}
theorem open_row {α:Type} [Inhabited α] {ec:α→List Value} {k:Nat} (hk:∀ x,(ec x).length=k) (hk0:0<k) {t e:TypeId} (ht:Tryz.prog.underlying t=some (.slice e)) (hc:Tryz.prog.cellsOf e=k) (Ok:α→Prop)
  (el:∀ n cs y,cs.length=k→DataW.trod enc Tryz.prog w base spare held n e cs=some y→∃ x,cs=ec x∧Ok x) {fuel:Nat} {cs:List Value} {x:DataW H×List MemPlace} (h:DataW.trod enc Tryz.prog w base spare held fuel t cs=some x) :
  ∃ (v:Value) (xs:List α) (P:PoolT),cs=[v]∧RowIn P ec k v xs∧(poolA P).ho w∧(∀ x∈xs,Ok x)∧∃ ad c,v=.slice ad xs.length c∧xs.length≤c:=by
 rcases open_slice ht h with ⟨hcs,_⟩|⟨a,len,cap,m,n,D,Pl,hcs,_,hl,hm,hmm,_,hx⟩
 ·exact ⟨_,[],[],hcs,RowIn.nil 0,poolA_nil w,by simp,_,_,rfl,Nat.le_refl _⟩
 ·have hml:len≤m:=by rw [hmm];split <;> omega
  rw [hc] at hx
  by_cases h0:len=0
  ·subst h0
   exact ⟨_,[],[],hcs,⟨some a,cap,rfl,by simp,fun h=>by simp at h⟩,poolA_nil w,by simp,_,_,rfl,Nat.zero_le _⟩
  obtain ⟨b,o,spot⟩:=a
  have key:∀ i,i<len→∃ x:α,w.cells? base ((⟨b,o,spot⟩:Addr).add (i*k)) k=some (ec x)∧Ok x:=fun i hi=>by
   obtain ⟨cs',h1,h2⟩:=hx i (by omega)
   obtain ⟨x,rfl,hok⟩:=el _ _ _ (World.cells?_some h1).2.1 h2
   exact ⟨x,h1,hok⟩
  obtain ⟨f,hf2⟩:=choose_lt (α:=α) key
  have hcell:∀ i,i<len→∀ j u,(ec (f i))[j]?=some u→w.cell? (((⟨b,o,spot⟩:Addr).add (i*k)).add j)=some u:=fun i hi j u hj=>by
   have hj4:j<k:=by have:=(List.getElem?_eq_some_iff.1 hj).1;rwa [hk] at this
   have:=(World.cells?_some (hf2 i hi).1).2.2 j hj4
   rw [this,hj]
  have hl4:0<(ec (f 0)).length:=by rw [hk];omega
  have hspot:spot=none:=by
   have:=World.cell?_spot (hcell 0 (by omega) 0 _ (List.getElem?_eq_getElem hl4))
   simpa [Addr.add] using this
  subst hspot
  have hadd:∀ i j,((⟨b,o,none⟩:Addr).add (i*k)).add j=⟨b,o+(i*k+j),none⟩:=fun i j=>by rw [Addr.add_mid,Addr.add_mid];congr 1;omega
  have hblk:b<w.heap.size:=by
   have:=block_lt_of_cell (hcell 0 (by omega) 0 _ (List.getElem?_eq_getElem hl4))
   rw [hadd] at this
   exact this
  unfold maxLen at hm
  have hlen:((List.range len).map f).length=len:=by simp
  refine ⟨_,(List.range len).map f,[(b,o,flatG ec ((List.range len).map f))],hcs,⟨some ⟨b,o,none⟩,cap,by rw [hlen],by rw [hlen];unfold maxLen;omega,fun _=>⟨b,o,rfl,by simp⟩⟩,?_,?_,_,cap,by rw [hlen],by rw [hlen];exact hl⟩
  ·rw [poolA_ho]
   intro y hy
   simp only [List.mem_singleton] at hy
   subst hy
   refine ⟨hblk,fun jj u hj=>?_⟩
   have hjl:=getElem_len hj
   rw [flatG_len ec k hk,hlen] at hjl
   have hi:jj/k<len:=by rw [Nat.div_lt_iff_lt_mul hk0];exact hjl
   have hjk:jj%k<k:=Nat.mod_lt _ hk0
   have hget:((List.range len).map f)[jj/k]?=some (f (jj/k)):=by rw [List.getElem?_map,List.getElem?_range hi];rfl
   have hfl:=flatG_get ec k hk _ (jj/k) _ hget (jj%k) hjk
   have hdm:jj/k*k+jj%k=jj:=by have:=Nat.div_add_mod jj k;rw [Nat.mul_comm] at this;exact this
   rw [hdm,hj] at hfl
   have:=hcell (jj/k) hi (jj%k) u hfl.symm
   rw [hadd,hdm] at this
   exact this
  ·intro y hy
   obtain ⟨i,hi,rfl⟩:=List.mem_map.1 hy
   exact (hf2 i (List.mem_range.1 hi)).2
theorem arg_text {r:Reach} {b0:Nat} {v:Value} {d:DataW H} {p:List MemPlace} (hv:Value.okWide Tryz.prog w r b0 42 v) (h:DataW.Trod enc Tryz.prog w base spare held 42 v d p) :
  ∃ (xs:List Nat) (P:PoolT),TxtIn P v xs∧(∀ x∈xs,x<256)∧(poolA P).ho w:=by
 obtain ⟨a,n,c,rfl⟩:=okWide_slice Tryz.underlying42 hv
 obtain ⟨fuel,hf⟩:=h
 have c5:Tryz.prog.cellsOf 5=1:=by kernel_rfl
 obtain ⟨v2,xs,P,e,h1,h2,h3,ad,c2,h4,h5⟩:=open_row (ec:=encT) encT_len (by omega) Tryz.underlying42 c5 (fun x=>x<256) (fun n cs y hl hy=>by
  obtain ⟨z,rfl,_,hz⟩:=DataW.trod_int Tryz.underlying5 hy
  obtain ⟨x,rfl,hx⟩:=u8_wf hz
  exact ⟨x,rfl,hx⟩) hf
 simp only [Value.cells,List.cons.injEq,and_true] at e
 first|subst e|(have e:=(List.cons.inj e).1;subst e)
 exact ⟨xs,P,⟨ad,c2,h4,h5,h1⟩,h3,h2⟩
end
theorem gTab:Tryz.prog.globalNamed "math/bits.deBruijn64tab"=some 0:=by kernel_rfl
theorem tTab:(Tryz.prog.globals[0]?).map (·.type)=some 291:=by kernel_rfl
theorem tab_is {H:Type}:(Rows.laid_math_bits_deBruijn64tab:DataW H)=.agg (Lib.deBruijn64tab.map fun (n:Nat)=>.lit (.int .u8 n)):=rfl
theorem tab_of {W:World} (h:laidMetH Tryz.prog [("math/bits.deBruijn64tab",Rows.laid_math_bits_deBruijn64tab)] W):deA.ho W:=by
  rw [deA_ho]
  rw [MakeChecks.laidMetH_plain _ _ _ (by kernel_rfl)] at h
  obtain ⟨ps,⟨g0,t0,cs0,f0,p0,q0,hg0,ht0,hv0,hd0,_,_⟩,_,_⟩:=h
  obtain rfl:=Option.some.inj (gTab.symm.trans hg0)
  obtain rfl:=Option.some.inj (tTab.symm.trans ht0)
  obtain ⟨xs,m1,hfu,hx1,hlen,hn3,hel⟩:=DataW.trod_array Tryz.underlying291 hd0
  have c5:Tryz.prog.cellsOf 5=1:=by kernel_rfl
  have key:∀ j,j<64→W.cell? ⟨0,j,none⟩=some (.int .u8 (Lib.deBruijn64tab.getD j 0:Nat)):=fun j hj=>by
    have h0:=hel j hj
    rw [c5] at h0
    obtain ⟨y,hy⟩:∃ y,xs[j]?=some y:=⟨xs[j]'(by omega),List.getElem?_eq_getElem _⟩
    rw [hy] at h0
    obtain ⟨k,e1,e2,_⟩:=DataW.trod_int Tryz.underlying5 h0
    rw [tab_is] at hx1
    simp only [Prod.mk.injEq,DataW.agg.injEq] at hx1
    have e3:=congrArg (fun l:List (DataW Unit)=>l[j]?) hx1.1
    simp only [List.getElem?_map,hy,Option.map_some] at e3
    have hl : j < Lib.deBruijn64tab.length := by have : Lib.deBruijn64tab.length = 64 := by decide
                                                 omega
    rw [List.getElem?_eq_getElem hl,Option.map_some] at e3
    have hk:k=(Lib.deBruijn64tab[j]:Nat):=by
      have:=Option.some.inj e3
      rw [e2] at this
      simp at this
      exact this.symm
    have hcl:=World.var?_cell hg0 hv0 j
    have e4:cs0.toList[j]?=some (.int .u8 k):=by
      have:=congrArg List.head? e1
      rw [Nat.mul_one,List.head?_take,if_neg (by omega),List.head?_drop] at this
      simpa using this
    rw [hcl,← Array.getElem?_toList,e4,hk]
    simp [List.getD,hl]
  have h64:Lib.deBruijn64tab.length=64:=by decide
  exact ⟨fun j hj=>key j (by omega),by have:=block_lt_of_cell (key 0 (by omega));exact this⟩
theorem door_met (os:Os) (args:Array Value):laidMetH Tryz.prog [("math/bits.deBruijn64tab",Rows.laid_math_bits_deBruijn64tab)] ((World.doorLaid Tryz.prog 400 os).forCall (fun _ _=>0) ⟨#[],args,[]⟩).memory :=
 laidMetH_of_parts3 (fuel:=80) (laidMet_of_run' 80 (by kernel_rfl) (by kernel_rfl)) (by kernel_rfl) (by kernel_rfl)
end
end Go.Proofs.YtgnppnokkdghcaaGreatDoor
