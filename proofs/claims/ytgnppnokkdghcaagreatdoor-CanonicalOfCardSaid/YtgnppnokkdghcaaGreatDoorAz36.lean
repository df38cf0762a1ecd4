/-
  Part 36 of the texts behind CanonicalOf: walks and laws. Conditions: as each states.
-/
import Derived.Test.YtgnppnokkdghcaaGreatDoorAz28
import Derived.Test.YtgnppnokkdghcaaGreatDoorAz29
import Derived.LaidEqlPtr
import Derived.Laws.Concat
import Derived.Laws.IdiomStrings
import Derived.Lib.BufferRead
set_option linter.unusedSimpArgs false
set_option linter.unusedVariables false
set_option maxRecDepth 100000
set_option maxHeartbeats 80000000
open Array renaming getElem?_eq_some_iff→yV
open Bool renaming false_eq_true→xA
open Go.Proofs.Tryz renaming func71→Qd,ntmps71→Zu,prog→zb
open Int renaming tmod_eq_emod_of_nonneg→jz
open List renaming append_nil→qO,cons→Zq,cons_append→zo,drop_succ_cons→wQ,drop_zero→yw,eq_nil_of_length_eq_zero→qe,filter_cons→kA,flatMap_cons→zt,flatMap_nil→wW,getElem?_cons_succ→yN,getElem?_cons_zero→Q9,getElem?_drop→yh,getElem?_map→yf,getElem?_replicate→x4,getElem?_take→wh,getLast?_append→xu,length→ym,length_append→zi,length_map→qd,map_cons→zX,map_nil→ye,map_toArray→xo,mem_append→zl,mem_cons→zL,mem_cons_of_mem→qT,mem_cons_self→zN,mem_flatten→vc,mem_map→qY,mem_of_getElem?→zy,mem_range→zJ,mem_replicate→wq,mem_singleton→Zx,nil_append→zv,range→zk,replicate→zd,replicate_succ→zS,take_length→jx,take_zero→jA
open Nat renaming add_assoc→wA,eq_zero_or_pos→qk,exists_eq_succ_of_ne_zero→zA,le_refl→zr,le_trans→qs,lt_or_ge→yI,mod_eq_of_lt→xI,strongRecOn→yJ,sub_self→QL,zero_add→qQ,zero_le→qy
open Option renaming map_some→Qb,some→yk
namespace Go.Proofs.YtgnppnokkdghcaaGreatDoor
section
open Go.RowKit Go.Maps
attribute [local go_sem] qt
section
variable {ops:Array Oper} {Q:Exit->Act->World->Prop} {rest:List Oper} {a:Act} {w w0:World} {M:List Nat} {L R:List As} {o1:Oper}
theorem AtSlice.zero {α:Type} (enc:α->List Value) {t e:TypeId} (H:St w0 M L w) (hw:Region.wanted o1 (yielded ops a.tmps)=true) (ho:o1.op=.buildSlice t 0 #[]) (hte:yv t=some e) {z:Value} {k bytes:Nat} (hi:xx e=some (z,k,bytes)) (hk:∀ x,(enc x).length=k)
  (h:∀ b w',St w0 M (zc enc e k (.slice (some ⟨b,0,none⟩) 0 0) []::L) w'->wpList zb ops Q rest (a.put o1.dst (.slice (some ⟨b,0,none⟩) 0 0)) w'):AtSlice zb ops Q o1 t 0 #[] rest a w :=
 wpList_step fun _ hK=>by
  rw [if_pos hw];unfold Oper.wp execOp;simp only [ho,xo,ye,Sem.run_bind,run_slice0 hte hi,Result.andThen_ok,Sem.run_pure];exact hK _ _ (h _ _ ((H.alloc (.cells #[] e)).conv (by rw [qS,w8];rfl) fun hb=>Zi (xs:=[]) (by rw [xp] at hb;exact hb) (by simp [maxLen]) (by simp [zU]) hk))
end
section
variable {ops:Array Oper} {Q:Exit->Act->World->Prop} {rest:List Oper} {a:Act} {w:World} {o1:Oper}
theorem YL {t e ty:TypeId} (hte:yv t=some e) {z:Value} {k bytes:Nat} (hi:xx e=some (z,k,bytes)) {b c:Nat} {ad:Option Addr} {w:World}:(Builtin.append_ #[t,t] ty #[.slice (some ⟨b,0,none⟩) 0 0,.slice ad 0 c]).run zb w=.ok (.slice (some ⟨b,0,none⟩) 0 0) w:=by
 obtain ⟨i,h2,h3,h4,h5⟩:=x6 hi;have hu:=yi hte;cases ad with
 |none=>simp [Builtin.append_,run_underlying hu,sizeOf,typeInfo,h2,Builtin.lenOf,Builtin.firstCells,loadCells,loadCellsFrom,storeCells]
 |some x=>simp [Builtin.append_,run_underlying hu,sizeOf,typeInfo,h2,Builtin.lenOf,Builtin.firstCells,loadCells,loadCellsFrom,storeCells]
theorem AtAppend.none {t e:TypeId} {x y:Operand} (hw:Region.wanted o1 (yielded ops a.tmps)=true) (ho:o1.op=.call ⟨.builtin .append,#[x,y],#[t,t]⟩) (hte:yv t=some e) {z:Value} {k bytes:Nat} (hi:xx e=some (z,k,bytes)) {b c:Nat} {ad:Option Addr} (hx:yU a x=some (.slice (some ⟨b,0,Option.none⟩) 0 0)) (hy:yU a y=some (.slice ad 0 c))
  (h:wpList zb ops Q rest (a.put o1.dst (.slice (some ⟨b,0,Option.none⟩) 0 0)) w):AtAppend zb ops Q o1 t x y rest a w :=
 wpList_step fun _ hK=>by
  rw [if_pos hw];unfold Oper.wp execOp;simp only [ho,resolve,invoke,builtin,Sem.run_bind,Sem.run_pure,Result.andThen_ok,xo,zX,ye,yg hx,yg hy,YL hte hi];exact hK _ _ h
end
theorem nil_leaves (text:List Nat):xi (text.map Tr.leaf):=fun t ht=>by
 obtain ⟨b,_,rfl⟩:=qY.1 ht;exact ⟨b,rfl⟩
theorem of_zero {X:Px} {ad:Option Addr} {c:Nat} (w:World) (h:(pA X).ho w):Calls zb 22 #[.pointer (some ⟨X.p,0,none⟩),.slice ad 0 c] w fun e w'=>e=.returned (.tuple #[.int .i64 0,.nilIface])∧w'=w:=by
 have HC0:=zh (Xk h);clear h;go_enter Tryz.func22,Tryz.ntmps22;go_wp2_with (first|refine sL ?_|(refine sS ?_;clear H;intros;rename_i H)|((with_reducible refine qh ?_);refine AtLoad.cel rfl rfl rfl rfl HC0.out ?_;simp only [Act.put,puA,puB,puC]));go_ret2;exact ⟨rfl,rfl⟩
theorem of_any {X:Px} {P:wi} {text:List Nat} {v:Value} (hX:zK X) (hr:RowIn P qN 1 v text) (hb:∀ x∈text,x<256) (hlen:text.length<=65536) (hroom:X.S.list.length+2*text.length<X.S.most) (w:World) (hd:((pA X).sep deA).ho w) (hp:((pA X).sep (qX P)).ho w) :
  Calls zb 22 #[.pointer (some ⟨X.p,0,none⟩),v] w fun e w'=>∃ (X':Px) (id:Nat),e=.returned (.tuple #[.int .i64 id,.nilIface])∧X.Ext X'∧zK X'∧IdIs X'.S id (text.map Tr.leaf)∧X'.S.list.length<=X.S.list.length+2*text.length∧St w (pA X).fp [pA X'] w':=by
 rcases qk text.length with h0|h0
 ·obtain rfl:=qe h0;obtain ⟨ad,c,rfl,_⟩:=hr;rw [qz] at hd;refine (of_zero w hd.1).mono ?_;rintro e w' ⟨rfl,rfl⟩;exact ⟨X,0,rfl,.refl _,hX,.inl ⟨rfl,rfl⟩,by omega,St.one hd.1⟩
 ·obtain ⟨T,t1,t2,t3⟩:=Z5 (nil_leaves text) (fun e=>by simp at e;rw [e] at h0;simp at h0) (by simp;omega);refine (of_p hX hr hb h0 hlen t1 t2 t3 w hd hp).mono ?_;rintro e w' ⟨X',q1,q2,q3,q4,q5⟩;rcases q4 with ⟨id,rfl,q6⟩|⟨_,q6⟩
  ·exact ⟨X',id,rfl,q1,q2,.inr ⟨T,q6,t1,t2⟩,q3,q5⟩
  ·have h9:X'.S.most=X.S.most:=q1.le.1;omega
end
section
open Go.RowKit Go.Maps
attribute [local go_sem] qt
section
variable {ops:Array Oper} {Q:Exit->Act->World->Prop} {rest:List Oper} {a:Act} {w w0:World} {M:List Nat} {L:List As} {o1:Oper}
theorem AtSlice.lit {t e:TypeId} {n:Nat} {ps:Array (Nat×Operand)} (H:St w0 M L w) (hw:Region.wanted o1 (yielded ops a.tmps)=true) (ho:o1.op=.buildSlice t n ps) (hte:yv t=some e) {z:Value} {k bytes:Nat} {cs:Array Value} (hi:xx e=some (z,k,bytes)) (hk:k=1) (hz:z.cells.size=1) (hn:¬ n*1 > 2 ^ 24) (hn0:¬ n*1=0)
  (hf:Instr.fill (fun i=>some (i*1,1)) ((Array.range (n*1)).map (z.cells[·%z.cells.size]!)) (ps.map fun (i,x)=>(i,a.eval x)).toList=some cs)
  (h:∀ b w',St w0 M (blk b (.cells cs e)::L) w'->wpList zb ops Q rest (a.put o1.dst (.slice (some ⟨b,0,none⟩) n n)) w'):AtSlice zb ops Q o1 t n ps rest a w :=
 wpList_step fun _ hK=>by
  rw [if_pos hw];obtain ⟨i,h2,h3,h4,h5⟩:=x6 hi;subst hk;have hr:=run_buildSlice (P:=zb) w t e n (ps.map fun (i,x)=>(i,a.eval x)) cs i z (yi hte) h2 h3 (by rw [h4];exact hn) (by rw [h4];exact hn0) (by rw [h4];exact hf);unfold Oper.wp execOp;simp only [ho,Sem.run_bind,hr,Result.andThen_ok,Sem.run_pure];exact hK _ _ (h _ _ (H.alloc _))
end
theorem St.freeze {g:Nat} {cs:Array Value} {e:TypeId} {w0 w:World} {M:List Nat} {L:List As} (h:St w0 M (blk g (.cells cs e)::L) w):St w0 M (blk g (.cells cs e (cs.size,cs.size+1))::L) (w.freeze ⟨g,cs.size,none⟩ 1):=by
 have hg:w.heap[g]?=some (.cells cs e):=h.at Pick.here;have hs:(w.freeze ⟨g,cs.size,none⟩ 1).heap.size=w.heap.size:=(by unfold World.freeze;simp);have hlt:g<w.heap.size:=(yV.1 hg).1;refine St.turn h (A':=blk g (.cells cs e (cs.size,cs.size+1))) (fun b hb=>?_) rfl rfl rfl hs ?_ (by rw [w8,w8])
 ·have hne:g≠b:=fun e'=>hb (by simp [blk,e'])
  unfold World.freeze;simp only [Nat.succ_ne_zero,if_false];rw [Array.getElem?_modify,if_neg hne]
 ·rw [xp];unfold World.freeze;simp only [Nat.succ_ne_zero,if_false];rw [Array.getElem?_modify,if_pos rfl,hg];rfl
theorem run_conv {t:TypeId} (hte:yv t=some 5) {g n c:Nat} {cs:Array Value} {e:TypeId} {w:World} (hg:w.heap[g]?=some (.cells cs e)):(convert t t (.slice (some ⟨g,0,none⟩) n c)).run zb w=.ok (.slice (some ⟨g,0,none⟩) n c) (w.freeze ⟨g,cs.size,none⟩ 1):=by
 have hu:=run_underlying (P:=zb) (yi hte);have hu5:zb.underlying 5=some (.int .u8):=(by kernel_rfl);have hu6:=run_underlying (P:=zb) hu5;simp [convert,hu,hu6,markStringish,shape,freeze,Sem.run,World.shape?,hg]
def AtConv (P:Program) (ops:Array Oper) (Q:Exit->Act->World->Prop) (o:Oper) (_:TypeId) (_:Operand) (rest:List Oper) (a:Act) (w:World):Prop:=wpList P ops Q (o::rest) a w
section
variable {ops:Array Oper} {Q:Exit->Act->World->Prop} {rest:List Oper} {a:Act} {w w0:World} {M:List Nat} {L R:List As} {o1:Oper} {dst:Option Tmp} {ty0:TypeId} {pos:String} {aft:Array Edge} {gd:Option (Nat×Bool)}
theorem AtConv.bytes {t e:TypeId} {x:Operand} (H:St w0 M L w) (hw:Region.wanted o1 (yielded ops a.tmps)=true) (ho:o1.op=.convert t t x) (hte:yv t=some 5) {g n c:Nat} (hx:a.eval x=.slice (some ⟨g,0,none⟩) n c) {cs:Array Value} (hp:Pick L (blk g (.cells cs e)) R)
  (h:∀ w',St w0 M (blk g (.cells cs e (cs.size,cs.size+1))::R) w'->wpList zb ops Q rest (a.put o1.dst (.slice (some ⟨g,0,none⟩) n c)) w'):AtConv zb ops Q o1 t x rest a w :=
 wpList_step fun _ hK=>by
  rw [if_pos hw];have H':=H.pick hp;have hg:w.heap[g]?=some (.cells cs e):=H'.at Pick.here;unfold Oper.wp execOp;simp only [ho,hx,Sem.run_bind,run_conv hte hg,Result.andThen_ok,Sem.run_pure];exact hK _ _ (h _ H'.freeze)
end
end
section
open Go.RowKit Go.Maps
attribute [local go_sem] qt
end
section
open Go.RowKit Go.Maps
attribute [local go_sem] qt
section
variable {ops:Array Oper} {Q:Exit->Act->World->Prop} {rest:List Oper} {a:Act} {w w0:World} {M:List Nat} {L R:List As} {o1:Oper} {dst:Option Tmp} {ty0:TypeId} {pos:String} {aft:Array Edge} {gd:Option (Nat×Bool)} {Rr:Value->World->Prop}
def cutA (ad:Option Addr) (c l:Nat):Option Addr:=if c=l then ad else ad.map (·.add l)
theorem run_sl {t e:TypeId} (hte:yv t=some e) {z:Value} {bytes:Nat} (hi:xx e=some (z,1,bytes)) {ad:Option Addr} {n c:Nat} (lo hi':Option Nat) {l h:Nat} (hl:lo.getD 0=l) (hh:hi'.getD n=h) (h1:l<=h) (h2:h<=c) (w:World) :
  (Instr.sliceAt t (.slice ad n c) (lo.map fun x=>.int .i64 (x:Nat)) (hi'.map fun x=>.int .i64 (x:Nat)) none).run zb w=.ok (.slice (cutA ad c l) (h-l) (c-l)) w:=by
 obtain ⟨i,e2,e3,e4,e5⟩:=x6 hi;have hu:=yi hte;have hb:(Instr.sliceBound (Value.int .i64 (h:Nat)) c .sliceAcap).run zb w=.ok h w:=by
  unfold Instr.sliceBound;simp [asIntOf,h2]
 have hb2:(Instr.sliceBound (Value.int .i64 (l:Nat)) h .sliceB).run zb w=.ok l w:=by
  unfold Instr.sliceBound;simp [asIntOf,h1]
 unfold cutA;cases lo with
 |none =>
  simp at hl;subst hl;cases hi' with
  |none =>
   simp at hh;subst hh;simp [Instr.sliceAt,Instr.slice,Instr.sliceBounds,run_underlying hu,sizeOf,typeInfo,e2,e4,Sem.run_bind,Result.andThen]
  |some x =>
   simp at hh;subst hh;simp [Instr.sliceAt,Instr.slice,Instr.sliceBounds,run_underlying hu,sizeOf,typeInfo,e2,e4,Sem.run_bind,Result.andThen,hb]
 |some y =>
  simp at hl;subst hl;cases hi' with
  |none =>
   simp at hh;subst hh;simp [Instr.sliceAt,Instr.slice,Instr.sliceBounds,run_underlying hu,sizeOf,typeInfo,e2,e4,Sem.run_bind,Result.andThen,hb2]
  |some x =>
   simp at hh;subst hh;simp [Instr.sliceAt,Instr.slice,Instr.sliceBounds,run_underlying hu,sizeOf,typeInfo,e2,e4,Sem.run_bind,Result.andThen,hb,hb2]
def AtSeg (P:Program) (ops:Array Oper) (Q:Exit->Act->World->Prop) (o:Oper) (_:TypeId) (_:Operand) (_ _:Option Operand) (rest:List Oper) (a:Act) (w:World):Prop:=wpList P ops Q (o::rest) a w
theorem AtSeg.row {t e:TypeId} {x:Operand} {y1 y2:Option Operand} (lo hi':Option Nat) (hw:Region.wanted o1 (yielded ops a.tmps)=true) (ho:o1.op=.slice t x y1 y2 none) (hte:yv t=some e) {z:Value} {bytes:Nat} (hi:xx e=some (z,1,bytes)) {ad:Option Addr} {n c:Nat} (hx:a.eval x=.slice ad n c) (hy1:y1.map a.eval=lo.map fun x=>.int .i64 (x:Nat)) (hy2:y2.map a.eval=hi'.map fun x=>.int .i64 (x:Nat))
  {l h m cr:Nat} (hl:lo.getD 0=l) (hh:hi'.getD n=h) (h1:l<=h) (h2:h<=c) (hm:h-l=m) (hcr:c-l=cr) {ad':Option Addr} (had:cutA ad c l=ad')
  (h9:wpList zb ops Q rest (a.put o1.dst (.slice ad' m cr)) w):AtSeg zb ops Q o1 t x y1 y2 rest a w :=
 wpList_step fun _ hK=>by
  rw [if_pos hw];unfold Oper.wp execOp;simp only [ho,hx,hy1,hy2,Option.map_none,Sem.run_bind,run_sl hte hi lo hi' hl hh h1 h2,Result.andThen_ok,Sem.run_pure,had,hm,hcr];exact hK _ _ h9
end
theorem flatT_get (xs:List Nat) (i:Nat):(zU qN xs)[i]?=xs[i]?.map fun x=>(.int .u8 (x:Nat):Value):=by
 have:zU qN xs=xs.map fun x=>(.int .u8 (x:Nat):Value):=by
  unfold zU;induction xs with
  |nil=>rfl
  |cons x xs ih=>rw [zt,ih];rfl
 rw [this,yf]
def TxtIn (P:wi) (v:Value) (xs:List Nat):Prop:=∃ ad c,v=.slice ad xs.length c∧xs.length<=c∧RowIn P qN 1 v xs
theorem TxtIn.row {P:wi} {v:Value} {xs:List Nat} (h:TxtIn P v xs):RowIn P qN 1 v xs:=by obtain ⟨_,_,_,_,h⟩:=h;exact h
theorem TxtIn.cut {P:wi} {ad:Option Addr} {n c:Nat} {xs:List Nat} (h:TxtIn P (.slice ad n c) xs) (l m:Nat) (h2:l+m<=xs.length) :
  n=xs.length∧n<=c∧∃ (ad':Option Addr) (P':wi),cutA ad c l=ad'∧(∀ x∈P,x∈P')∧(∀ w,(qX P).ho w->(qX P').ho w)∧TxtIn P' (.slice ad' m (c-l)) ((xs.drop l).take m):=by
 obtain ⟨ad0,c0,e1,hc,ad1,c1,e2,hmx,hr⟩:=h;injection e1 with q1 q2 q3
 subst q1 q2 q3;injection e2 with q1 q2 q3
 subst q1 q3;have hlen:((xs.drop l).take m).length=m:=(by simp;omega);refine ⟨rfl,hc,?_⟩;rcases qk m with rfl|hm
 ·exact ⟨_,P,rfl,fun x h=>h,fun w h=>h,⟨_,_,by rw [hlen],by omega,_,_,by rw [hlen],by omega,fun h=>by omega⟩⟩
 ·obtain ⟨g,o,rfl,hp⟩:=hr (by omega);have hcl:¬ c=l:=(by omega);have had:cutA (some ⟨g,o,none⟩) c l=some ⟨g,o+l,none⟩:=by
   unfold cutA Addr.add;rw [if_neg hcl];by_cases h0:l=0
   ·subst h0;simp
   ·simp [h0]
  refine ⟨_,(g,o+l,zU qN ((xs.drop l).take m))::P,had,fun x h=>qT _ h,fun w h=>?_,⟨_,_,by rw [hlen],by omega,_,_,by rw [hlen],by omega,fun _=>⟨g,o+l,rfl,zN⟩⟩⟩;rw [kV] at h ⊢;intro x hx;rcases zL.1 hx with rfl|hx
  ·refine ⟨(h _ hp).1,fun j u hj=>?_⟩;have:=(h _ hp).2 (l+j) u (by
    rw [flatT_get] at hj ⊢;rw [wh] at hj;split at hj
    ·rwa [yh] at hj
    ·simp at hj)
   simpa [wA] using this
  ·exact h x hx
theorem TxtIn.mono {P Q:wi} {v:Value} {xs:List Nat} (h:TxtIn P v xs) (hs:∀ x∈P,x∈Q):TxtIn Q v xs:=by
 obtain ⟨ad,c,h1,h2,h3⟩:=h;exact ⟨ad,c,h1,h2,h3.mono hs⟩
end
section
open Go.RowKit Go.Maps
attribute [local go_sem] qt
structure Pz where
 c:Bool
 f:Int
 n:Int
 t:List Nat
structure Pi where
 c:Bool
 f:Int
 n:Int
 id:Nat
structure PiOk (S:Sto) (p:Pi) (q:Pz):Prop where
 c:p.c=q.c
 f:p.f=q.f
 n:p.n=q.n
 id:IdIs S p.id (q.t.map Tr.leaf)
theorem PiOk.le {S S':Sto} {p:Pi} {q:Pz} (h:PiOk S p q) (hS:S.Ok) (hl:S.Le S'):PiOk S' p q:=⟨h.c,h.f,h.n,h.id.le hS hl⟩
def PiL (S:Sto):List Pi->List Pz->Prop
 |[],[]=>True
 |a::l,t::u=>PiOk S a t∧PiL S l u
 |_,_=>False
theorem PiL.len {S:Sto}:∀ {l:List Pi} {u:List Pz},PiL S l u->l.length=u.length
 |[],[],_=>rfl
 |a::l,t::u,h=>by simp [PiL.len h.2]
 |[],_::_,h=>h.elim
 |_::_,[],h=>h.elim
theorem PiL.get {S:Sto}:∀ {l:List Pi} {u:List Pz} {i:Nat} {a:Pi},PiL S l u->l[i]?=some a->∃ t,u[i]?=some t∧PiOk S a t
 |[],[],i,a,_,h=>by simp at h
 |b::l,t::u,0,a,h,e=>by
  simp only [Q9,yk.injEq] at e;subst e;exact ⟨t,rfl,h.1⟩
 |b::l,t::u,i+1,a,h,e=>by
  simp only [yN] at e ⊢;exact PiL.get h.2 e
 |[],_::_,_,_,h,_=>h.elim
 |_::_,[],_,_,h,_=>h.elim
theorem PiL.le {S S':Sto} (hS:S.Ok) (hl:S.Le S'):∀ {l:List Pi} {u:List Pz},PiL S l u->PiL S' l u
 |[],[],_=>trivial
 |a::l,t::u,h=>⟨h.1.le hS hl,PiL.le hS hl h.2⟩
 |[],_::_,h=>h.elim
 |_::_,[],h=>h.elim
theorem PiL.append {S:Sto}:∀ {l l':List Pi} {u u':List Pz},PiL S l u->PiL S l' u'->PiL S (l++l') (u++u')
 |[],_,[],_,_,h=>h
 |a::l,_,t::u,_,h,k=>⟨h.1,PiL.append h.2 k⟩
 |[],_,_::_,_,h,_=>h.elim
 |_::_,_,[],_,h,_=>h.elim
theorem idIs_le {S:Sto} {id:Nat} {s:List Tr} (h:IdIs S id s):id<=S.list.length:=by
 rcases h with ⟨_,rfl⟩|⟨T,h1,_⟩
 ·omega
 ·exact h1.2.1
end
section
open Go.RowKit Go.Maps
attribute [local go_sem] qt
end
section
open Go.RowKit Go.Maps
attribute [local go_sem] qt
end
section
open Go.RowKit Go.Maps
attribute [local go_sem] qt
def kw (l:List Nat):ByteArray:=⟨(l.map UInt8.ofNat).toArray⟩
theorem VW (a b:List Nat):kw a++kw b=kw (a++b):=by
 apply ByteArray.ext;simp [kw,ByteArray.data_append]
theorem yq (l:List Nat):(kw l).size=l.length:=by simp [kw,ByteArray.size]
theorem strB_nil:kw []=⟨#[]⟩:=rfl
theorem strB_cells {l:List Nat} (hl:∀ x∈l,x<256) (cap:Nat):∀ (j:Nat) (u:Value),(zU qN l)[j]?=some u->(bytesRow (kw l) cap)[j]?=some u:=by
 intro j u hj;have hf:zU qN l=l.map fun x=>(.int .u8 (x:Nat):Value):=by
  unfold zU qN;clear hj hl;induction l with
  |nil=>rfl
  |cons x l ih=>rw [zt,zX,ih];rfl
 rw [hf,yf] at hj;cases hx:l[j]? with
 |none=>rw [hx] at hj;simp at hj
 |some x =>
  rw [hx] at hj;simp at hj;subst hj;have hjl:=yE hx;have hx2:x<256:=hl x (zy hx);unfold bytesRow;rw [Array.getElem?_append_left (by simp [kw];exact hjl)];simp only [kw,Array.getElem?_map,List.getElem?_toArray,yf,hx,Qb];simp [UInt8.toNat_ofNat',xI hx2]
section
variable {ops:Array Oper} {Q:Exit->Act->World->Prop} {rest:List Oper} {a:Act} {w w0:World} {M:List Nat} {L R:List As} {o1:Oper} {dst:Option Tmp} {ty0:TypeId} {pos:String} {aft:Array Edge} {gd:Option (Nat×Bool)}
def AtBytes (P:Program) (ops:Array Oper) (Q:Exit->Act->World->Prop) (o:Oper) (_ _:TypeId) (_:Operand) (rest:List Oper) (a:Act) (w:World):Prop:=wpList P ops Q (o::rest) a w
theorem isBytes {P:Program} {x:Operand} (h:AtBytes P ops Q ⟨dst,.convert 9 42 x,ty0,pos,aft,gd⟩ 9 42 x rest a w):wpList P ops Q (⟨dst,.convert 9 42 x,ty0,pos,aft,gd⟩::rest) a w:=h
theorem St.ofBytes {w0 w:World} {M:List Nat} {L:List As} {l:List Nat} {cap:Nat} {fr:Nat×Nat} (H:St w0 M L w) (hl:∀ x∈l,x<256):St w0 M (qX [(w.heap.size,0,zU qN l)]::L) (w.drew.alloc (.cells (bytesRow (kw l) cap) 5 fr)):=by
 have h1:St w0 M L w.drew:=⟨H.os,H.tape,H.output,H.size,H.keep,fun A hA=>A.loc w _ (fun _ _=>rfl) (H.ho A hA),H.own,H.dis⟩
 have h2:=h1.alloc (.cells (bytesRow (kw l) cap) 5 fr);refine h2.conv (by rw [WD,w8];rfl) fun hb=>?_
 rw [xp] at hb;rw [kV];intro x hx;simp only [zL,List.not_mem_nil,or_false] at hx;subst hx;refine ⟨lt_of_block hb,fun j u hj=>?_⟩;show (w.drew.alloc (.cells (bytesRow (kw l) cap) 5 fr)).cell? ⟨w.drew.heap.size,0+j,none⟩=some u
 rw [cell_of_row _ _ (0+j) _ _ fr hb,qQ];exact strB_cells hl cap j u hj
theorem AtBytes.go {x:Operand} (H:St w0 M L w) (hw:Region.wanted o1 (yielded ops a.tmps)=true) (ho:o1.op=.convert 9 42 x) (l:List Nat) (hx:yU a x=some (.string (kw l))) (hl:∀ x∈l,x<256) {n:Nat} (hn:l.length=n) (hm:n<=maxLen)
  (h:∀ g c w',RowIn [(g,0,zU qN l)] qN 1 (.slice (some ⟨g,0,none⟩) n c) l->St w0 M (qX [(g,0,zU qN l)]::L) w'->wpList zb ops Q rest (a.put o1.dst (.slice (some ⟨g,0,none⟩) n c)) w'):AtBytes zb ops Q o1 9 42 x rest a w :=
 wpList_step fun _ hK=>by
  rw [if_pos hw];subst hn;have hr:=run_bytes_of_string (P:=zb) w 9 42 5 (kw l) (by kernel_rfl) (by kernel_rfl) (by kernel_rfl);rw [yq] at hr;unfold Oper.wp execOp;simp only [ho,yg hx,Sem.run_bind,hr,Result.andThen_ok,Sem.run_pure];exact hK _ _ (h _ _ _ ⟨_,_,rfl,hm,fun _=>⟨w.heap.size,0,rfl,by simp⟩⟩ (H.ofBytes hl))
end
attribute [irreducible] kw
attribute [local go_sem] yq
end
section
open Go.RowKit Go.Maps
attribute [local go_sem] qt yq
theorem bytes_conv {v:Value} {l:List Nat} (hl:∀ x∈l,x<256) {w:World} (h:(zc qN 5 1 v l).ho w):(convert 42 9 v).run zb w=.ok (.string (kw l)) w:=by
 have k1:zb.underlying 42=some (.slice 5):=(by kernel_rfl);have k2:zb.underlying 5=some (.int .u8):=(by kernel_rfl);have k3:zb.underlying 9=some .string:=(by kernel_rfl);rcases qk l.length with h0|h0
 ·have:l=[]:=qe h0;subst this;obtain ⟨ad,c,rfl,_⟩:=zE h;rw [strB_nil];cases ad with
  |none=>exact Lib.run_convert_nil_bytes w _ _ _ c k1 k2 k3
  |some a =>
   have:=run_convert_bytes_back (P:=zb) w 42 9 5 a c [] k1 k2 k3 (fun j hj=>absurd hj (by simp));simpa using this
 ·obtain ⟨g,c,rfl,_,_⟩:=q8 h h0;have:=run_convert_bytes_back (P:=zb) w 42 9 5 ⟨g,0,none⟩ c (l.map UInt8.ofNat) k1 k2 k3 (fun j hj=>by
   have hj':j<l.length:=(by simpa using hj);have hx:=zg hj';have hc:=qj h ki hx (j:=0) rfl;have hb:l[j]<256:=hl _ (List.getElem_mem hj');rw [Addr.add_mid,qQ];simp only [Nat.mul_one,Nat.add_zero] at hc;rw [hc];simp [UInt8.toNat_ofNat',xI hb])
  rw [qd] at this;rw [this];unfold kw;rfl
section
variable {a:Act} {ops:Array Oper} {K:Act->Prop} {rest:List Oper} {dst:Option Tmp} {ty0:TypeId} {pos:String} {aft:Array Edge} {gd:Option (Nat×Bool)} {w1:World}
def QtConv (P:Program) (ops:Array Oper) (C:World->Prop) (K:Act->Prop) (o:Oper) (_ _:TypeId) (_:Operand) (rest:List Oper) (a:Act):Prop:=wpQuiet P ops C K (o::rest) a
theorem QtConv.go {o1:Oper} {t u:TypeId} {x:Operand} (hw:Region.wanted o1 (yielded ops a.tmps)=true) (ho:o1.op=.convert t u x) {v z:Value} (hx:a.eval x=v) (hc:∀ y:Gr w1,(convert t u v).run zb y.1=.ok z y.1)
  (h:wpQuiet zb ops (qt w1) K rest (a.put o1.dst z)):QtConv zb ops (qt w1) K o1 t u x rest a :=
 wpQuiet_step fun _ hK=>by
  rw [if_pos hw];refine ⟨z,fun w2 ⟨y,hy⟩=>?_,hK _ h⟩;subst hy;unfold Oper.quietAt execOp;simp only [ho,hx,Sem.run_bind,hc y,Result.andThen_ok];exact ⟨rfl,rfl⟩
end
theorem XQ:∀ {t:Tr},xi (t.lay 0)->t.lay 0=t.txt.map Tr.leaf
 |.leaf b,_=>rfl
 |.pair l r,h=>by
  by_cases h0:(Tr.pair l r).lv<=0
  ·simp only [Tr.lay,h0,if_true] at h;obtain ⟨b,hb⟩:=h _ (Zx.2 rfl);cases hb
  ·simp only [Tr.lay,h0,if_false] at h ⊢;rw [XQ (t:=l) fun x hx=>h x (by simp [hx]),XQ (t:=r) fun x hx=>h x (by simp [hx])];simp [Tr.txt]
 |.pow s k,h=>by
  by_cases h0:(Tr.pow s k).lv<=0
  ·simp only [Tr.lay,h0,if_true] at h;obtain ⟨b,hb⟩:=h _ (Zx.2 rfl);cases hb
  ·simp only [Tr.lay,h0,if_false] at h ⊢;rcases qk k with rfl|hk
   ·rfl
   ·rw [XQ (t:=s) fun x hx=>h x (vc.2 ⟨s.lay 0,wq.2 ⟨by omega,rfl⟩,hx⟩)];simp [Tr.txt]
end
section
open Go.RowKit Go.Maps
attribute [local go_sem] qt yq
def zY (q:Nat×Nat):Value×Value:=(.int .i64 q.1,.int .i64 q.2)
def KnOk (S:Sto) (K:List (Nat×Nat)):Prop:=∀ q∈K,1<=q.1∧q.1<=S.list.length∧IdIs S q.2 ((S.tr q.1).txt.map Tr.leaf)
theorem KnOk.le {S S':Sto} {K:List (Nat×Nat)} (h:KnOk S K) (hS:S.Ok) (hl:S.Le S'):KnOk S' K:=fun q hq=>by
 obtain ⟨h1,h2,h3⟩:=h q hq;refine ⟨h1,qs h2 hl.len,?_⟩;rw [hl.tr hS h1 h2];exact h3.le hS hl
theorem id_key (x:Nat) (hx:x<=1152921504606846976):∃ l,keyOf zb 26 (.int .i64 (x:Nat))=some l:=by
 have h2:zb.underlying 26=some (.int .i64):=un_26;have hw:=J2 x (by omega);unfold keyOf mapKey;simp [h2,hw]
theorem XI {mp x:Nat} {K:List (Nat×Nat)} {w:World} (ok:Bool) (hx:x<=1152921504606846976) (h:(zP zb 26 mp (K.map zY)).ho w) :
  (∃ y,(x,y)∈K∧(Instr.lookup 136 (.map (some mp)) (.int .i64 (x:Nat)) ok).run zb w=.ok (if ok then .tuple #[.int .i64 (y:Nat),.bool true] else .int .i64 (y:Nat)) w)∨((∀ q∈K,q.1≠x)∧(Instr.lookup 136 (.map (some mp)) (.int .i64 (x:Nat)) ok).run zb w=.ok (if ok then .tuple #[.int .i64 0,.bool false] else .int .i64 0) w):=by
 obtain ⟨l,hl⟩:=id_key x hx;obtain ⟨v,b,hv,hr⟩:=vG Vu h mt_136 hl (K8 (t:=26) rfl) ok;have hmem:∀ {u:Value},(.int .i64 (x:Nat),u)∈K.map zY->∃ y,(x,y)∈K∧u=.int .i64 (y:Nat):=fun {u} hu=>by
  obtain ⟨⟨a,c⟩,hq,he⟩:=qY.1 hu;simp only [zY,Prod.mk.injEq,Value.int.injEq,true_and] at he;obtain ⟨e1,e2⟩:=he;have e3:a=x:=(by omega);subst e3;exact ⟨c,hq,e2.symm⟩
 have hk:∀ {y},(x,y)∈K->zY (x,y)∈K.map zY:=fun h=>qY.2 ⟨_,h,rfl⟩
 rcases hv with ⟨rfl,h1⟩|⟨rfl,rfl,h1⟩
 ·obtain ⟨y,hy,rfl⟩:=hmem h1;exact .inl ⟨y,hy,hr⟩
 ·refine .inr ⟨fun q hq e=>?_,hr⟩;obtain ⟨a,c⟩:=q;simp only at e;subst e;exact h1 _ (hk hq) rfl
theorem cnew_c {X:Px} (w:World):Calls zb 36 #[.pointer (some ⟨X.p,0,none⟩)] w fun e w'=>∃ bm mp:Nat,e=.returned (.pointer (some ⟨bm,0,none⟩))∧St w [] [blk bm (.cells #[.pointer (some ⟨X.p,0,none⟩),.map (some mp)] 138),zP zb 26 mp (([]:List (Nat×Nat)).map zY)] w':=by
 have H:=St.nil w [];go_enter Tryz.func36,Tryz.ntmps36;go_wp2_with (first|refine sL ?_|(refine sS ?_;clear H;intros;rename_i H)|((with_reducible refine Jw ?_);refine AtMakeMap.go 26 H rfl rfl ?_;clear H;intro mp _ H;simp only [Act.put,puA,puB,puC]));go_ret;exact ⟨_,mp,rfl,by simpa using H.picks (.cons pk (.cons pk .nil))⟩
theorem WJ {X:Px} {bm mp x y:Nat} {K:List (Nat×Nat)} (hx:x<=1152921504606846976) (hn:∀ q∈K,q.1≠x) (w:World) (h:((blk bm (.cells #[.pointer (some ⟨X.p,0,none⟩),.map (some mp)] 138)).sep (zP zb 26 mp (K.map zY))).ho w):Calls zb 103 #[.pointer (some ⟨bm,0,none⟩),.int .i64 (x:Nat),.int .i64 (y:Nat),.nilIface] w fun e w'=>e=.returned .nilIface∧St w ((blk bm (.cells #[.pointer (some ⟨X.p,0,none⟩),.map (some mp)] 138)).sep (zP zb 26 mp (K.map zY))).fp [blk bm (.cells #[.pointer (some ⟨X.p,0,none⟩),.map (some mp)] 138),zP zb 26 mp ((K++[(x,y)]).map zY)] w':=by
 have H:=(St.one h).sep;generalize ((blk bm (.cells #[.pointer (some ⟨X.p,0,none⟩),.map (some mp)] 138)).sep (zP zb 26 mp (K.map zY))).fp=N at H ⊢;obtain ⟨l,hl⟩:=id_key x hx;have HN:Hid (∀ e∈K.map zY,e.1≠.int .i64 (x:Nat)):=zh fun e he e1=>by
  obtain ⟨q,hq,rfl⟩:=qY.1 he;simp only [zY,Value.int.injEq,true_and] at e1;exact hn q hq (by omega)
 have HL:=zh hl;clear h hn hx hl;go_enter Tryz.func103,Tryz.ntmps103;go_wp2_with (first|refine sL ?_|(refine sS ?_;clear H;intros;rename_i H)|((with_reducible refine Vq ?_);refine AtUpdate.new Vu mt_136 H rfl rfl rfl pk (k:=.int .i64 (x:Nat)) (v:=.int .i64 (y:Nat)) rfl rfl HL.out HN.out ?_;clear H;intro _ H;simp only [Act.put,puA,puB,puC]));go_ret;refine ⟨rfl,?_⟩;have:=H.picks (.cons (A:=blk bm (.cells #[.pointer (some ⟨X.p,0,none⟩),.map (some mp)] 138)) pk (.cons pk .nil));simpa [zY] using this
theorem tr_lt {S:Sto} (hS:S.Ok):∀ (i:Nat),i<S.list.length->∀ b∈(S.tr (i+1)).txt,b<256:=by
 intro i;induction i using yJ with
 |_ i ih =>
  intro hi b hb;cases xh hS (zg hi) with
  |letter c hc hr hw ht =>
   rw [ht] at hb;simp [Tr.txt] at hb;omega
  |pair l r y z hl hr hy hz he hw hs ht =>
   rw [ht] at hb;simp only [Tr.txt,zl] at hb;rcases hb with hb|hb
   ·exact ih l hl (by omega) b hb
   ·exact ih r hr (by omega) b hb
  |pow l k y hl hy hk he hw hs ht =>
   rw [ht] at hb;simp only [Tr.txt] at hb;obtain ⟨t,ht2,hb⟩:=vc.1 hb;rw [(wq.1 ht2).2] at hb;exact ih l hl (by omega) b hb
theorem learn_c {X:Px} {bm mp x:Nat} {K:List (Nat×Nat)} (hX:zK X) (h1:1<=x) (h2:x<=X.S.list.length) (hn:∀ q∈K,q.1≠x) {L9:Nat} (hL9:L9<=256) (ht:(X.S.tr x).len<=L9) (hroom:X.S.list.length+2*L9<X.S.most) (hmost:X.S.most<=1048576) (w:World) (h:((pA X).sep ((blk bm (.cells #[.pointer (some ⟨X.p,0,none⟩),.map (some mp)] 138)).sep (zP zb 26 mp (K.map zY)))).ho w) (hd:(((pA X).sep ((blk bm (.cells #[.pointer (some ⟨X.p,0,none⟩),.map (some mp)] 138)).sep (zP zb 26 mp (K.map zY)))).sep deA).ho w) :
  Calls zb 71 #[.pointer (some ⟨bm,0,none⟩),.int .i64 (x:Nat)] w fun e w'=>∃ (X':Px) (y:Nat),e=.returned (.tuple #[.int .i64 0,.nilIface])∧X.Ext X'∧zK X'∧IdIs X'.S y ((X.S.tr x).txt.map Tr.leaf)∧X'.S.list.length<=X.S.list.length+2*L9∧St w ((pA X).sep ((blk bm (.cells #[.pointer (some ⟨X.p,0,none⟩),.map (some mp)] 138)).sep (zP zb 26 mp (K.map zY)))).fp [pA X',blk bm (.cells #[.pointer (some ⟨X.p,0,none⟩),.map (some mp)] 138),zP zb 26 mp ((K++[(x,y)]).map zY)] w':=by
 have H:=((St.one h).sep.pick (A:=((blk bm (.cells #[.pointer (some ⟨X.p,0,none⟩),.map (some mp)] 138)).sep (zP zb 26 mp (K.map zY)))) pk).sep;rw [qz] at hd;have HK:Ks w ((pA X).sep ((blk bm (.cells #[.pointer (some ⟨X.p,0,none⟩),.map (some mp)] 138)).sep (zP zb 26 mp (K.map zY)))).fp [deA]:=⟨by simpa using hd.2.1,by simpa using fun b hb hm=>hd.2.2 b hm hb⟩
 generalize ((pA X).sep ((blk bm (.cells #[.pointer (some ⟨X.p,0,none⟩),.map (some mp)] 138)).sep (zP zb 26 mp (K.map zY)))).fp=N at H HK ⊢;obtain ⟨t,htt⟩:∃ t,(X.S.tr x).txt=t:=⟨_,rfl⟩
 obtain ⟨n,hnn⟩:∃ n,t.length=n:=⟨_,rfl⟩
 have hln:(X.S.tr x).len=n:=(by rw [← Tr.txt_len,htt,hnn]);obtain ⟨j,hj⟩:∃ j,x=j+1:=⟨x-1,by omega⟩
 obtain ⟨en,hen⟩:∃ a,X.S.list[j]?=some a:=⟨_,zg (by omega)⟩
 have hlw:en.w.len=n:=(by rw [← hln,hj];exact (j1 hX.ok j en hen).1.symm);have hlt:∀ b∈t,b<256:=(by rw [← htt,hj];exact tr_lt hX.ok j (by omega));have HS:Hid (∀ w,(pA X).ho w->Calls zb 53 #[.pointer (some ⟨X.p,0,none⟩)] w fun e w'=>e=.returned (.pointer (some ⟨X.s,0,none⟩))∧w'=w):=zh fun w h=>jH w h
 have hW:Hid (∀ w,(pA X).ho w->Calls zb 40 #[.pointer (some ⟨X.s,0,none⟩),.int .i64 (x:Nat)] w fun e w'=>e=.returned (.tuple #[.agg #[.int .i64 (n:Nat),.int .i64 en.w.lines,.int .i64 en.w.head,.int .i64 en.w.tail,.int .u64 en.w.val,.int .u64 en.w.scale],.nilIface])∧St w [] [] w'):=zh fun w h=>by
  have:=km (i:=x) (x:=en) (by rw [hj];exact hen) w (jh h);rw [← hlw];exact this
 have HE:Hid (∀ w,(pA X).ho w->Calls zb 78 #[.pointer (some ⟨X.s,0,none⟩),.int .i64 (x:Nat),.int .i64 0,.int .i64 (n:Nat)] w fun e w'=>∃ v':Value,e=.returned (.tuple #[v',.nilIface])∧St w [] [zc qN 5 1 v' t] w'):=zh fun w h=>extract_c hX.ok (.inr ⟨h1,h2,hln.symm,htt.symm⟩) (by omega) w (jh h)
 have HO:Hid (∀ (v:Value) w,((pA X).sep deA).ho w->((pA X).sep (zc qN 5 1 v t)).ho w->Calls zb 22 #[.pointer (some ⟨X.p,0,none⟩),v] w fun e w'=>∃ (X':Px) (id:Nat),e=.returned (.tuple #[.int .i64 id,.nilIface])∧X.Ext X'∧zK X'∧IdIs X'.S id (t.map Tr.leaf)∧X'.S.list.length<=X.S.list.length+2*t.length∧St w (pA X).fp [pA X'] w'):=zh fun v w h hr=>by
  rw [qz] at hr;obtain ⟨P,r1,r2,r3⟩:=rowsA_pool hr.2.1 ki;exact of_any hX r1 hlt (by omega) (by omega) w h (by rw [qz];exact ⟨hr.1,r2,fun b hb hc=>hr.2.2 b hb (r3 b hc)⟩)
 have HR:Hid (∀ (y:Nat) w,(((blk bm (.cells #[.pointer (some ⟨X.p,0,none⟩),.map (some mp)] 138)).sep (zP zb 26 mp (K.map zY)))).ho w->Calls zb 103 #[.pointer (some ⟨bm,0,none⟩),.int .i64 (x:Nat),.int .i64 (y:Nat),.nilIface] w fun e w'=>e=.returned .nilIface∧St w (((blk bm (.cells #[.pointer (some ⟨X.p,0,none⟩),.map (some mp)] 138)).sep (zP zb 26 mp (K.map zY)))).fp [blk bm (.cells #[.pointer (some ⟨X.p,0,none⟩),.map (some mp)] 138),zP zb 26 mp ((K++[(x,y)]).map zY)] w'):=zh fun y w h=>WJ (by omega) hn w h
 have hnb:n<=256:=(by omega);have hnb9:n<=L9:=(by omega);have HL:Hid (t.length=n∧n<=256∧n<=L9):=zh ⟨hnn,hnb,hnb9⟩;have d1:decide ((n:Int)<=256)=true:=(by simp;omega);have d1n:decide (n<=256)=true:=(by simp;omega);rw [htt];clear hnb9 hL9 h hd hX h1 h2 hn ht hroom hmost htt hnn hln hj hen hlw hlt;go_enter Qd,Zu;go_wp2_with (first|refine sL ?_|(refine sS ?_;clear H;intros;rename_i H)|(go_at_call 53;with_reducible refine same (HS.out _ (H.get pk)) ?_)|(go_at_call 40;with_reducible refine zm (hW.out _ (H.get (A:=pA X) pk)) ?_;rintro e9 wc ⟨rfl,hb⟩;replace H:=H.grew hb.below;clear hb)|(go_at_call 78;with_reducible refine zm (HE.out _ (H.get pk)) ?_;rintro e9 wc ⟨v2,rfl,hb⟩;replace H:=zn (H.call0 hb);clear hb)|(go_at_call 22;with_reducible refine zm (HO.out v2 _ (H.sepK HK pk pk) (H.sepO pk pk)) ?_;rintro e9 wc ⟨X2,y2,rfl,y1,y3,y4,y5,hb⟩;have HZ:=zh (za y1 (za y3 (za y4 y5)));clear y1 y3 y4 y5;replace H:=zn ((H.pick pk).call hb);clear hb)|(go_at_call 103;with_reducible refine zm (HR.out y2 _ (St.ho (H.pick2 (A:=blk bm (.cells #[.pointer (some ⟨X.p,0,none⟩),.map (some mp)] 138)) (B:=zP zb 26 mp (K.map zY)) pk pk).join _ zN)) ?_;rintro e9 wc ⟨rfl,hb⟩;replace H:=zn ((H.pick2 (A:=blk bm (.cells #[.pointer (some ⟨X.p,0,none⟩),.map (some mp)] 138)) (B:=zP zb 26 mp (K.map zY)) pk pk).join.call hb);clear hb));go_ret2;have h1:=HZ.out;have h2:=HL.out;exact ⟨X2,y2,rfl,h1.1,h1.2.1,h1.2.2.1,by omega,H.picks (.cons pk (.cons pk (.cons pk .nil)))⟩
end
section
open Go.RowKit Go.Maps
attribute [local go_sem] qt yq
def OfR (X:Px) (N:List Nat) (w:World) (bm mp x b9:Nat) (K:List (Nat×Nat)) (L9:Nat) (m:Nat) (v:Value) (wr:World):Prop :=
 ∃ (X2:Px) (K2:List (Nat×Nat)),m<=2∧v=.slice (some ⟨b9,0,none⟩) (if m=0 then 0 else 1) 1∧(KnOk X2.S K2∧X.Ext X2∧zK X2∧X2.S.list.length<=X.S.list.length+2*L9∧((m=2∧X2=X∧K2=K)∨∃ y,(x,y)∈K2))∧St w N [pA X2,blk bm (.cells #[.pointer (some ⟨X.p,0,none⟩),.map (some mp)] 138),zP zb 26 mp (K2.map zY),blk b9 (.cells #[.int .i64 (x:Nat)] 26)] wr
theorem of_c {X:Px} {bm mp x:Nat} {K:List (Nat×Nat)} (hX:zK X) (h1:1<=x) (h2:x<=X.S.list.length) (hK:KnOk X.S K) {L9:Nat} (hL9:L9<=256) (ht:(X.S.tr x).len<=L9) (hroom:X.S.list.length+2*L9<X.S.most) (hmost:X.S.most<=1048576) (w:World) (h:((pA X).sep ((blk bm (.cells #[.pointer (some ⟨X.p,0,none⟩),.map (some mp)] 138)).sep (zP zb 26 mp (K.map zY)))).ho w) (hd:(((pA X).sep ((blk bm (.cells #[.pointer (some ⟨X.p,0,none⟩),.map (some mp)] 138)).sep (zP zb 26 mp (K.map zY)))).sep deA).ho w) :
  Calls zb 35 #[.pointer (some ⟨bm,0,none⟩),.int .i64 (x:Nat)] w fun e w'=>∃ (X':Px) (K':List (Nat×Nat)) (y:Nat),e=.returned (.tuple #[.int .i64 y,.nilIface])∧X.Ext X'∧zK X'∧KnOk X'.S K'∧IdIs X'.S y (((X.S.tr x).txt.map Tr.leaf))∧X'.S.list.length<=X.S.list.length+2*L9∧St w ((pA X).sep ((blk bm (.cells #[.pointer (some ⟨X.p,0,none⟩),.map (some mp)] 138)).sep (zP zb 26 mp (K.map zY)))).fp [pA X',blk bm (.cells #[.pointer (some ⟨X.p,0,none⟩),.map (some mp)] 138),zP zb 26 mp (K'.map zY)] w':=by
 have H:=((St.one h).sep.pick (A:=((blk bm (.cells #[.pointer (some ⟨X.p,0,none⟩),.map (some mp)] 138)).sep (zP zb 26 mp (K.map zY)))) pk).sep;rw [qz] at hd;have HK:Ks w ((pA X).sep ((blk bm (.cells #[.pointer (some ⟨X.p,0,none⟩),.map (some mp)] 138)).sep (zP zb 26 mp (K.map zY)))).fp [deA]:=⟨by simpa using hd.2.1,by simpa using fun b hb hm=>hd.2.2 b hm hb⟩
 have HLN:Hid (∀ w,((pA X).sep ((blk bm (.cells #[.pointer (some ⟨X.p,0,none⟩),.map (some mp)] 138)).sep (zP zb 26 mp (K.map zY)))).ho w->(((pA X).sep ((blk bm (.cells #[.pointer (some ⟨X.p,0,none⟩),.map (some mp)] 138)).sep (zP zb 26 mp (K.map zY)))).sep deA).ho w->(∀ q∈K,q.1≠x)->Calls zb 71 #[.pointer (some ⟨bm,0,none⟩),.int .i64 (x:Nat)] w fun e w'=>∃ (X':Px) (y:Nat),e=.returned (.tuple #[.int .i64 0,.nilIface])∧X.Ext X'∧zK X'∧IdIs X'.S y (((X.S.tr x).txt.map Tr.leaf))∧X'.S.list.length<=X.S.list.length+2*L9∧St w ((pA X).sep ((blk bm (.cells #[.pointer (some ⟨X.p,0,none⟩),.map (some mp)] 138)).sep (zP zb 26 mp (K.map zY)))).fp [pA X',blk bm (.cells #[.pointer (some ⟨X.p,0,none⟩),.map (some mp)] 138),zP zb 26 mp ((K++[(x,y)]).map zY)] w'):=zh fun w h hd hn=>learn_c hX h1 h2 hn hL9 ht hroom hmost w h hd
 generalize ((pA X).sep ((blk bm (.cells #[.pointer (some ⟨X.p,0,none⟩),.map (some mp)] 138)).sep (zP zb 26 mp (K.map zY)))).fp=N at H HK ⊢;have HS:Hid (∀ w,(pA X).ho w->Calls zb 53 #[.pointer (some ⟨X.p,0,none⟩)] w fun e w'=>e=.returned (.pointer (some ⟨X.s,0,none⟩))∧w'=w):=zh fun w h=>jH w h
 have HLE:Hid (∀ w,(pA X).ho w->Calls zb 38 #[.pointer (some ⟨X.s,0,none⟩)] w fun e w'=>e=.returned (.int .i64 (X.S.list.length:Nat))∧w'=w):=zh fun w h=>Wp w (jh h)
 obtain ⟨ln,hln⟩:∃ k,X.S.list.length=k:=⟨_,rfl⟩
 rw [hln] at HLE;have HIN:Hid (zK X∧1<=x∧x<=ln∧KnOk X.S K∧X.S.list.length=ln∧ln<=1048576):=zh ⟨hX,h1,by omega,hK,hln,by omega⟩;have d1:decide ((x:Int)<0)=false:=(by simp);have d2:decide ((ln:Int)<(x:Int))=false:=(by simp;omega);have d2n:decide (ln<x)=false:=(by simp;omega);have d3:((x:Int)==0)=false:=(by simp;omega);have hxb:x<=1152921504606846976:=(by omega);clear hL9 hX h1 h2 hK ht hroom hmost h hd hln;go_enter Tryz.func35,Tryz.ntmps35;go_wp2_with (first|refine sL ?_|(refine sS ?_;clear H;intros;rename_i H)|(go_at_call 53;with_reducible refine same (HS.out _ (H.get pk)) ?_)|(go_at_call 38;with_reducible refine same (HLE.out _ (H.get pk)) ?_)|((with_reducible refine qV ?_);refine AtSlice.one H rfl rfl rfl rfl rfl rfl rfl rfl rfl ?_;clear H;intro b9 _ H;simp only [Act.put,puA,puB,puC]));go_loopg [6] 2 (fun m v6 wr=>OfR X N w bm mp x b9 K L9 m v6 wr);case atStart=>exact ⟨X,K,zr _,rfl,⟨HIN.out.2.2.2.1,.refl _,HIN.out.1,by omega,.inl ⟨rfl,rfl,rfl⟩⟩,H.picks (.cons pk (.cons pk (.cons pk (.cons pk .nil))))⟩
 case round =>
  clear H;obtain ⟨X2,K2,hm2,rfl,hrel,H⟩:=hrel;have HRL:=zh hrel;rcases qk gk with hm0|hm0
  ·subst hm0;simp only [if_true];have hy0:∃ y,(x,y)∈K2:=by
    rcases hrel.2.2.2.2 with ⟨h,_⟩|h
    ·omega
    ·exact h
   rcases XI (x:=x) false hxb (H.get (A:=zP zb 26 mp (K2.map zY)) pk) with ⟨y,hy,hlk⟩|⟨hno,_⟩
   ·simp only [xA,if_false] at hlk;have HY:=zh hy;clear hrel hy hy0;go_wp2_with (first|refine sL ?_|(refine sS ?_;clear H;intros;rename_i H));go_ret2;have h1:=HRL.out;have h3:=HIN.out;obtain ⟨k1,k2,k3⟩:=h1.1 _ HY.out;simp only at k3;rw [h1.2.1.le.tr h3.1.ok h3.2.1 (by omega)] at k3;exact ⟨X2,K2,y,rfl,h1.2.1,h1.2.2.1,h1.1,k3,h1.2.2.2.1,H.picks (.cons pk (.cons pk (.cons pk .nil)))⟩
   ·obtain ⟨y,hy⟩:=hy0;exact absurd rfl (hno _ hy)
  ·have hm1:¬ gk=0:=(by omega);simp only [hm1,if_false];rcases XI (x:=x) true hxb (H.get (A:=zP zb 26 mp (K2.map zY)) pk) with ⟨y,hy,hlk⟩|⟨hno,hlk⟩
   ·simp only [if_true] at hlk;have HY:=zh hy;clear hrel hy;go_wp2_with (first|refine sL ?_|(refine sS ?_;clear H;intros;rename_i H));go_roundg 0;case measure=>omega
    case rel=>exact ⟨X2,K2,by omega,rfl,⟨HRL.out.1,HRL.out.2.1,HRL.out.2.2.1,HRL.out.2.2.2.1,.inr ⟨y,HY.out⟩⟩,H.picks (.cons pk (.cons pk (.cons pk (.cons pk .nil))))⟩
   ·simp only [if_true] at hlk;rcases hrel.2.2.2.2 with ⟨e1,e2,e3⟩|⟨y,hy⟩
    ·subst e1;obtain rfl:=e2.symm;obtain rfl:=e3.symm;have HNO:=zh hno;clear hrel hno e2 e3;go_wp2_with (first|refine sL ?_|(refine sS ?_;clear H;intros;rename_i H)|(go_at_call 71;with_reducible refine zm (HLN.out _ ((St.join3 (H.pick3 (A:=pA X) (B:=blk bm (.cells #[.pointer (some ⟨X.p,0,none⟩),.map (some mp)] 138)) (C:=zP zb 26 mp (K.map zY)) pk pk pk)).ho _ zN) ((St.join3 (H.pick3 (A:=pA X) (B:=blk bm (.cells #[.pointer (some ⟨X.p,0,none⟩),.map (some mp)] 138)) (C:=zP zb 26 mp (K.map zY)) pk pk pk)).sepK HK .here pk) HNO.out) ?_;rintro e9 wc ⟨X3,y3,rfl,y1,y2,y4,y5,hb⟩;have HZ:=zh (za y1 (za y2 (za y4 y5)));clear y1 y2 y4 y5;replace H:=(St.join3 (H.pick3 (A:=pA X) (B:=blk bm (.cells #[.pointer (some ⟨X.p,0,none⟩),.map (some mp)] 138)) (C:=zP zb 26 mp (K.map zY)) pk pk pk)).call hb;clear hb hlk;simp only [zo,zv] at H));go_roundg 1;case measure=>omega
     case rel =>
      have h1:=HZ.out;have h3:=HIN.out;have hkn:KnOk X3.S (K++[(x,y3)]):=fun q hq=>by
       rcases zl.1 hq with hq|hq
       ·exact (h3.2.2.2.1.le h3.1.ok h1.1.le) q hq
       ·simp at hq;subst hq;refine ⟨h3.2.1,?_,?_⟩
        ·have:=h1.1.le.len;simp only;omega
        ·rw [h1.1.le.tr h3.1.ok h3.2.1 (by omega)];exact h1.2.2.1
      exact ⟨X3,K++[(x,y3)],by omega,rfl,⟨hkn,h1.1,h1.2.1,h1.2.2.2,.inr ⟨y3,by simp⟩⟩,H.picks (.cons pk (.cons pk (.cons pk (.cons pk .nil))))⟩
    ·exact absurd rfl (hno _ hy)
end
section
def vl (t:Tr):Nat:=if t.len<=256 then 2*t.len else match t with|.leaf _=>2|.pair _ _=>t.len|.pow _ _=>4*t.len
def wC:Tr->Nat
 |.leaf b=>2
 |.pair l r=>if (Tr.pair l r).len<=256 then 2*(Tr.pair l r).len else (Tr.pair l r).len+wC l+wC r
 |.pow s k=>if (Tr.pow s k).len<=256 then 2*(Tr.pow s k).len else 4*(Tr.pow s k).len+wC s
theorem jS {t:Tr} (h:t.len<=256):wC t=2*t.len:=by
 cases t with
 |leaf b=>simp [wC,Tr.len]
 |pair l r=>rw [wC,if_pos h]
 |pow s k=>rw [wC,if_pos h]
theorem ownT_cost (t:Tr):vl t<=wC t:=by
 unfold vl;split
 ·rename_i h;rw [jS h];exact zr _
 ·rename_i h;cases t with
  |leaf b=>simp [wC]
  |pair l r=>rw [wC,if_neg h];simp only;omega
  |pow s k=>rw [wC,if_neg h];simp only;omega
theorem ownT_le {t:Tr} (h:t.len<=300):vl t<=1200:=by
 unfold vl;split
 ·omega
 ·cases t <;> simp only <;> omega
theorem W7:∀ {t:Tr},t.Pow2->t.len<=300->wC t<=1500+302*(t.len-256)
 |.leaf b,_,_=>by simp only [wC];omega
 |.pair l r,h,hl=>by
  by_cases h1:(Tr.pair l r).len<=256
  ·rw [jS h1];omega
  ·rw [wC,if_neg h1];have e:(Tr.pair l r).len=l.len+r.len:=rfl;have hl1:=ja h.1;have hr1:=ja h.2;by_cases h2:l.len<=256
   ·rw [jS h2];by_cases h3:r.len<=256
    ·rw [jS h3];omega
    ·have:=W7 h.2 (by omega);omega
   ·have:=W7 h.1 (by omega);rw [jS (t:=r) (by omega)];omega
 |.pow s k,h,hl=>by
  by_cases h1:(Tr.pow s k).len<=256
  ·rw [jS h1];omega
  ·rw [wC,if_neg h1];have e:(Tr.pow s k).len=s.len*k:=rfl;have h2:s.len*2<=s.len*k:=Nat.mul_le_mul_left _ h.2;rw [jS (t:=s) (by omega)];omega
def YD (S:Sto) (Q:List Nat) (c:Nat):Nat:=if c=0∨c∈Q then 0 else wC (S.tr c)
def need (S:Sto) (Q:List Nat) (x:Nat):Nat :=
 if (S.tr x).len<=256 then vl (S.tr x) else match S.list[x-1]? with|some e=>vl (S.tr x)+YD S Q e.r.left+YD S Q e.r.right|none=>vl (S.tr x)
theorem ZY {S:Sto} {Q Q':List Nat} (h:∀ c∈Q,c∈Q') (c:Nat):YD S Q' c<=YD S Q c:=by
 unfold YD;by_cases h1:c=0∨c∈Q
 ·rw [if_pos (h1.elim .inl fun h1=>.inr (h _ h1))];exact qy _
 ·rw [if_neg h1];split
  ·exact qy _
  ·exact zr _
theorem JJ {S:Sto} {Q Q':List Nat} (h:∀ c∈Q,c∈Q') (x:Nat):need S Q' x<=need S Q x:=by
 unfold need;split
 ·exact zr _
 ·split
  ·rename_i e _;have:=ZY (S:=S) h e.r.left;have:=ZY (S:=S) h e.r.right;omega
  ·exact zr _
theorem own_need (S:Sto) (Q:List Nat) (x:Nat):vl (S.tr x)<=need S Q x:=by
 unfold need;split
 ·exact zr _
 ·split
  ·omega
  ·exact zr _
theorem Kx (S:Sto) (Q:List Nat) (c:Nat):YD S Q c<=wC (S.tr c):=by unfold YD;split <;> omega
theorem JI {S:Sto} (hS:S.Ok) (Q:List Nat) {x:Nat} (h1:1<=x) (h2:x<=S.list.length):need S Q x<=wC (S.tr x):=by
 obtain ⟨i,rfl⟩:=zA (show x≠0 by omega);unfold need;by_cases hl:(S.tr (i+1)).len<=256
 ·rw [if_pos hl];exact ownT_cost _
 ·rw [if_neg hl];have hx:S.list[i+1-1]?=some (S.list[i]'(by omega)):=(by simp);rw [hx];simp only;have h0:YD S Q 0=0:=(by simp [YD]);have hx2:S.list[i]?=some (S.list[i]'(by omega)):=(by simp);cases xh hS hx2 with
  |letter b hb hr hw ht=>rw [ht] at hl;simp [Tr.len] at hl
  |pair l r y z hl' hr hy hz he hw hs ht =>
   rw [he];have k1:=Kx S Q (l+1);have k2:=Kx S Q (r+1);rw [ht] at hl ⊢;rw [wC,if_neg hl];unfold vl;rw [if_neg hl];simp only;omega
  |pow l k y hl' hy hk he hw hs ht =>
   rw [he];have k1:=Kx S Q (l+1);rw [ht] at hl ⊢;rw [wC,if_neg hl];unfold vl;rw [if_neg hl];simp only;rw [h0];omega
def Qc (S:Sto) (x c:Nat):Prop:=1<=c∧∃ e,S.list[x-1]?=some e∧(c=e.r.left∨c=e.r.right)
theorem need_push {S:Sto} {Q:List Nat} {x c:Nat} (hl:¬ (S.tr x).len<=256) (h:Qc S x c) (hc:c ∉ Q):need S (c::Q) x+wC (S.tr c)<=need S Q x:=by
 obtain ⟨h1,e,he,h2⟩:=h;unfold need;rw [if_neg hl,if_neg hl,he];simp only;have k1:=ZY (S:=S) (Q:=Q) (Q':=c::Q) (fun d hd=>qT _ hd) e.r.left;have k2:=ZY (S:=S) (Q:=Q) (Q':=c::Q) (fun d hd=>qT _ hd) e.r.right;have k3:YD S (c::Q) c=0:=(by simp [YD]);have k4:YD S Q c=wC (S.tr c):=(by unfold YD;rw [if_neg (fun h=>h.elim (fun h=>by omega) fun h=>hc h)]);rcases h2 with h2|h2
 ·rw [← h2] at k1 ⊢;omega
 ·rw [← h2] at k2 ⊢;omega
def Ky (S:Sto) (Q:List Nat):Nat->List Nat->Nat
 |_,[]=>0
 |c,p::r=>need S (c::Q) p+Ky S Q p r
def Pot (S:Sto) (Q:List Nat):List Nat->Nat
 |[]=>0
 |x::r=>(if x∈Q then 0 else need S Q x)+Ky S Q x r
theorem JD {S:Sto} {Q Q':List Nat} (h:∀ c∈Q,c∈Q'):∀ (c:Nat) (r:List Nat),Ky S Q' c r<=Ky S Q c r
 |_,[]=>zr _
 |c,p::r=>by
  have h1:=JJ (S:=S) (Q:=c::Q) (Q':=c::Q') (fun d hd=>by
   rcases zL.1 hd with rfl|hd
   ·exact zN
   ·exact qT _ (h d hd)) p
  have h2:=JD (S:=S) h p r;simp only [Ky];omega
theorem pot_push {S:Sto} (hS:S.Ok) {Q:List Nat} {x c:Nat} {r:List Nat} (hx:x ∉ Q) (hl:¬ (S.tr x).len<=256) (h:Qc S x c) (hc:c ∉ Q) (hc2:c<=S.list.length):Pot S Q (c::x::r)<=Pot S Q (x::r):=by
 have h1:=need_push hl h hc;have h2:=JI hS Q h.1 hc2;simp only [Pot,Ky];rw [if_neg hx,if_neg hc];omega
theorem pot_learn {S:Sto} {Q Q':List Nat} {x:Nat} {r:List Nat} (hx:x ∉ Q) (h:∀ c∈Q,c∈Q') (hx':x∈Q'):Pot S Q' (x::r)+vl (S.tr x)<=Pot S Q (x::r):=by
 have h1:=own_need S Q x;have h2:=JD (S:=S) h x r;simp only [Pot];rw [if_neg hx,if_pos hx'];omega
theorem pot_pop {S:Sto} {Q:List Nat} {x:Nat} {r:List Nat} (hx:x∈Q):Pot S Q r<=Pot S Q (x::r):=by
 cases r with
 |nil=>simp [Pot]
 |cons p r =>
  have h1:=JJ (S:=S) (Q:=x::Q) (Q':=Q) (fun d hd=>by
   rcases zL.1 hd with rfl|hd
   ·exact hx
   ·exact hd) p
  simp only [Pot,Ky];rw [if_pos hx];split <;> omega
theorem JL {S:Sto} (hS:S.Ok) {Q:List Nat} {x:Nat} (h1:1<=x) (h2:x<=S.list.length):Pot S Q [x]<=wC (S.tr x):=by
 have:=JI hS Q h1 h2;simp only [Pot,Ky];split <;> omega
def vo (n:Nat) (Q:List Nat):Nat:=((zk (n+1)).filter fun i=>decide (i ∉ Q)).length
theorem unkN_mono {n:Nat} {Q Q':List Nat} (h:∀ c∈Q,c∈Q'):vo n Q'<=vo n Q:=by
 unfold vo;generalize zk (n+1)=l;induction l with
 |nil=>simp
 |cons x l ih =>
  simp only [kA];by_cases h1:x∈Q
  ·have:=h x h1;simp [h1,this];simpa using ih
  ·by_cases h2:x∈Q'
   ·simp [h1,h2];have:_<=_:=ih;simp at this;omega
   ·simp [h1,h2];simpa using ih
theorem J1 {n x:Nat} {Q Q':List Nat} (h:∀ c∈Q,c∈Q') (hx:x<=n) (h1:x ∉ Q) (h2:x∈Q'):vo n Q'+1<=vo n Q:=by
 unfold vo;have hm:x∈zk (n+1):=zJ.2 (by omega);generalize zk (n+1)=l at hm ⊢;induction l with
 |nil=>simp at hm
 |cons y l ih =>
  have hmono:(l.filter fun i=>decide (i ∉ Q')).length<=(l.filter fun i=>decide (i ∉ Q)).length:=by
   clear ih hm;induction l with
   |nil=>simp
   |cons z l ih =>
    simp only [kA];by_cases h3:z∈Q
    ·have:=h z h3;simp [h3,this];simpa using ih
    ·by_cases h4:z∈Q'
     ·simp [h3,h4];have:_<=_:=ih;simp at this;omega
     ·simp [h3,h4];simpa using ih
  simp only [kA];rcases zL.1 hm with e|hm
  ·subst e;simp [h1,h2];simpa using hmono
  ·have ih:=ih hm;by_cases h3:y∈Q
   ·have:=h y h3;simp [h3,this];simpa using ih
   ·by_cases h4:y∈Q'
    ·simp [h3,h4];simp at ih;omega
    ·simp [h3,h4];simp at ih;omega
end
section
def Q7 (f:Tr->Tr->Bool):List Tr->Option Tr
 |[]=>none
 |[x]=>some x
 |x::y::r=>if f x y=true then Q7 f r else Q7 f (y::r)
theorem Q2 (f:Tr->Tr->Bool):∀ (a b:List Tr),(∀ x y,Q7 f a=some x->b.head?=some y->f x y=false)->zH f (a++b)=zH f a++zH f b∧(b≠[]->Q7 f (a++b)=Q7 f b)
 |[],b,_=>⟨rfl,fun _=>rfl⟩
 |[x],[],h=>⟨rfl,fun h=>absurd rfl h⟩
 |[x],y::b,h=>by
  have:=h x y rfl rfl;exact ⟨by simp [zH,this],fun _=>by simp [Q7,this]⟩
 |x::y::r,b,h=>by
  by_cases hf:f x y=true
  ·have ih:=Q2 f r b (by simpa [Q7,hf] using h);exact ⟨by simp [zH,hf,ih.1],fun hb=>by simp [Q7,hf,ih.2 hb]⟩
  ·have ih:=Q2 f (y::r) b (by simpa [Q7,hf] using h);simp only [zo] at ih;exact ⟨by simp [zH,hf,ih.1],fun hb=>by simp [Q7,hf,ih.2 hb]⟩
theorem Qz (f:Tr->Tr->Bool):∀ (a b c:List Tr) (x y:Tr),Q7 f a=some x->b.head?=some y->f x y=true->zH f (a++b)≠zH f a++c
 |[],b,c,x,y,h,_,_=>by simp [Q7] at h
 |[z],[],c,x,y,h,h2,_=>by simp at h2
 |[z],u::b,c,x,y,h,h2,h3=>by
  simp [Q7] at h h2;subst h h2;intro e;simp [zH,h3] at e;exact Zg _ _ e.1
 |z::w::r,b,c,x,y,h,h2,h3=>by
  by_cases hf:f z w=true
  ·have ih:=Qz f r b c x y (by simpa [Q7,hf] using h) h2 h3;intro e;simp [zH,hf] at e;exact ih e
  ·have ih:=Qz f (w::r) b c x y (by simpa [Q7,hf] using h) h2 h3;intro e;simp only [zo] at ih;simp [zH,hf] at e;exact ih e
theorem powT_inj {w:Tr} {k j:Nat} (hk:1<=k) (hj:1<=j) (h:jb (w,k+1)=jb (w,j+1)):k=j:=by
 simp only [jb] at h;rw [if_neg (by omega),if_neg (by omega)] at h;injection h with _ h
 omega
theorem VM (x:Tr) (k:Nat):Tr.pow x k≠x:=by
 intro h;have:SizeOf.sizeOf (Tr.pow x k)=SizeOf.sizeOf x:=by rw [h]
 simp at this;omega
theorem JV:∀ (a b c:List Tr) (x:Tr),a.getLast?=some x->b.head?=some x->runs (a++b)≠runs a++c
 |[],b,c,x,h,_=>by simp at h
 |[z],[],c,x,h,h2=>by simp at h2
 |[z],u::b,c,x,h,h2=>by
  simp at h h2;subst h h2;intro e;obtain ⟨k,g,hg⟩:=wj u b;have hk:=(jo (u::b) (u,k) (by rw [hg];simp)).1;simp only [zo,zv,runs] at e;rw [qU,hg] at e;simp only [if_true,zX,qU,ye,zo,zv] at e;injection e with e _
  simp only [jb] at e;rw [if_neg (by simp at hk;omega)] at e;exact VM _ _ e
 |z::w::r,b,c,x,h,h2=>by
  have ih:=JV (w::r) b c x (by simpa using h) h2;intro e;refine ih ?_;obtain ⟨k,g,hg⟩:=wj w (r++b);obtain ⟨k',g',hg'⟩:=wj w r;have hk:=(jo (w::(r++b)) (w,k) (by rw [hg];simp)).1;have hk':=(jo (w::r) (w,k') (by rw [hg'];simp)).1;simp only [runs,zo] at e ⊢;rw [qU,hg,qU,hg'] at e;rw [hg,hg'];simp only at e hk hk';by_cases hz:z=w
  ·rw [if_pos hz,if_pos hz] at e;simp only [zX,zo,Zq.injEq] at e ⊢;exact ⟨by rw [powT_inj hk hk' e.1],e.2⟩
  ·rw [if_neg hz,if_neg hz] at e;simp only [zX,zo,Zq.injEq] at e ⊢;exact e.2
def CutP (m:Nat) (a b:List Tr):Prop:=if m%2=1 then ∀ x y,a.getLast?=some x->b.head?=some y->x≠y else ∀ x y,Q7 (fits m) a=some x->b.head?=some y->fits m x y=false
theorem CutP.step {m:Nat} {a b:List Tr} (h:CutP m a b):yc m (a++b)=yc m a++yc m b:=by
 unfold CutP at h;unfold yc;split at h
 ·rename_i h1;rw [if_pos h1,if_pos h1,if_pos h1];exact ZS h
 ·rename_i h1;rw [if_neg h1,if_neg h1,if_neg h1];exact (Q2 _ a b h).1
theorem CutP.of {m:Nat} {a b c:List Tr} (h:yc m (a++b)=yc m a++c):CutP m a b:=by
 unfold yc at h;unfold CutP;split
 ·rename_i h1;rw [if_pos h1,if_pos h1] at h;intro x y hx hy e;subst e;exact JV a b c x hx hy h
 ·rename_i h1;rw [if_neg h1,if_neg h1] at h;intro x y hx hy;cases hf:fits m x y with
  |false=>rfl
  |true=>exact absurd h (Qz _ a b c x y hx hy hf)
theorem CutP.more {m:Nat} {a b d:List Tr} (h:CutP m a b) (hb:b≠[]) (h2:CutP m b d):CutP m (a++b) d:=by
 unfold CutP at h h2 ⊢;split at h
 ·rename_i h1;rw [if_pos h1] at h2 ⊢;intro x y hx hy;refine h2 x y ?_ hy;rw [xu] at hx;cases hl:b.getLast? with
  |none=>rw [List.getLast?_eq_none_iff] at hl;exact absurd hl hb
  |some z=>rw [hl] at hx;simpa using hx
 ·rename_i h1;rw [if_neg h1] at h2 ⊢;intro x y hx hy;rw [(Q2 _ a b h).2 hb] at hx;exact h2 x y hx hy
theorem CutP.head {m:Nat} {a b d:List Tr} (h:CutP m a b) (hd:d.head?=b.head?):CutP m a d:=by
 unfold CutP at h ⊢;rw [hd];exact h
theorem vX (k:Nat) (u:List Tr):(zd (k+1) u).flatten=u++(zd k u).flatten:=by simp [zS]
theorem VV {m:Nat} {u:List Tr} (h:CutP m u u):∀ k,yc m (zd k u).flatten=(zd k (yc m u)).flatten
 |0=>by simp [yc,runs,qU,zH]
 |1=>by simp
 |k+2=>by
  rw [vX,vX (k+1) (yc m u),← VV h (k+1)];cases hu:u with
  |nil=>simp [yc,runs,qU,zH]
  |cons x r =>
   rw [← hu];refine (h.head (d:=(zd (k+1) u).flatten) ?_).step;rw [vX,hu];simp
theorem Jl {t:Tr} {k:Nat} (h:Canon t) (he:t.lv%2=0) (hk:2<=k) (hc:∀ l,l<t.lv->CutP (l+1) (t.lay l) (t.lay l)):Canon (.pow t k)∧(Tr.pow t k).lay 0=(zd k (t.lay 0)).flatten:=by
 have hl:∀ l,l<=t.lv->xf (zd k (t.lay 0)).flatten l=(zd k (t.lay l)).flatten:=fun l=>by
  induction l with
  |zero=>intro _;rfl
  |succ l ih =>
   intro hl;rw [show xf (zd k (t.lay 0)).flatten (l+1)=yc (l+1) (xf (zd k (t.lay 0)).flatten l) from rfl,ih (by omega),VV (hc l (by omega)),h.step]
 have h1:=hl t.lv (zr _);rw [qG (zr _)] at h1;have h2:xf (zd k (t.lay 0)).flatten (t.lv+1)=[.pow t k]:=by
  rw [show xf (zd k (t.lay 0)).flatten (t.lv+1)=yc (t.lv+1) (xf (zd k (t.lay 0)).flatten t.lv) from rfl,h1];unfold yc;rw [if_pos (by omega)];have e:(zd k [t]).flatten=([(t,k)]:List (Tr×Nat)).flatMap fun p=>zd p.2 p.1:=by simp [List.flatten_replicate_singleton]
  unfold runs;have hg:qU ((([(t,k)]:List (Tr×Nat))).flatMap fun p=>zd p.2 p.1)=[(t,k)]:=kH (fun p hp=>by simp at hp;subst hp;show 1<=k;omega) trivial;rw [e,hg];simp only [zX,ye,jb];rw [if_neg (by omega)]
 have hls:xi (zd k (t.lay 0)).flatten:=fun x hx=>by
  obtain ⟨l,hl,hx⟩:=vc.1 hx;rw [(wq.1 hl).2] at hx;exact h.leaves x hx
 have:=ZF hls h2;exact ⟨this.1,this.2.1⟩
theorem Ja {t:Tr} {n k:Nat} (h:Canon (.pow t n)) (hk:2<=k):Canon (.pow t k):=by
 have hn:2<=n:=h.gd.2.2;have hct:Canon t:=h.kid (j:=0) (by simp only [zR];rw [x4,if_pos (by omega)]);obtain ⟨a,ha⟩:=h.gd.1;obtain ⟨b,hb,hb2,rfl⟩:=jq ha;have hlv:t.lv=b:=wv hb;have hpl:(Tr.pow t n).lv=b+1:=wv ha;refine (Jl hct (by omega) hk fun l hl=>?_).1;have hlay:∀ l,l<=b->(Tr.pow t n).lay l=(zd n (t.lay l)).flatten:=fun l hl=>by
  simp only [Tr.lay];rw [if_neg (by omega)]
 have hs:=h.step l;rw [hlay l (by omega),hlay (l+1) (by omega)] at hs;obtain ⟨n',rfl⟩:∃ n',n=n'+2:=⟨n-2,by omega⟩
 rw [vX,vX (n'+1) (t.lay (l+1)),← hct.step l] at hs;refine (CutP.of hs).head ?_;rw [vX];cases hu:t.lay l with
 |nil=>simp
 |cons x r=>simp
theorem VA {l:List Tr} (h:∀ t∈l,t.Pow2) (h0:jY l=0):l=[]:=by
 cases l with
 |nil=>rfl
 |cons x l =>
  have:=wS (m:=0) (h x (by simp));simp only [jY,zt,zi] at h0;omega
theorem EndL.pre {a:Tr} {m:Nat} {d:qK} {L:List Tr} (h:EndL a m d L):∃ Z,a.lay m=L++Z:=by
 obtain ⟨p,o⟩:=d;cases o with
 |none=>obtain ⟨_,rfl⟩:=h;exact ⟨_,rfl⟩
 |some x =>
  have h:EdL a m p x L:=h;have:=h.zip.lay h.above;rw [qG h.low] at this;exact ⟨_,by rw [this,h.eq]⟩
theorem EndR.suf {a:Tr} {m:Nat} {d:qK} {R:List Tr} (h:EndR a m d R):∃ Z,a.lay m=Z++R:=by
 obtain ⟨p,o⟩:=d;cases o with
 |none=>obtain ⟨_,rfl⟩:=h;exact ⟨a.lay m,by simp⟩
 |some x =>
  have h:EdR a m p x R:=h;have:=h.zip.lay h.above;rw [qG h.low] at this;exact ⟨qi m p,by rw [this,h.eq];simp⟩
theorem Vz (a:Tr) (m:Nat):jY (a.lay m)=(a.lay 0).length:=by
 unfold jY;rw [Zd (qy m)]
theorem SpI.both {t:Tr} {i n m:Nat} {d e:qK} (h:SpI t t (t.lay 0++t.lay 0) i n m d e []):xf (t.lay 0++t.lay 0) m=t.lay m++t.lay m:=by
 obtain ⟨L,R,h1,h2,h3,_,_⟩:=h.ex;obtain ⟨Z,hZ⟩:=h1.pre;obtain ⟨Y,hY⟩:=h2.suf;have hp:∀ u∈t.lay m,u.Pow2:=fun u hu=>wM h.ca.leaves m u (by rw [h.ca.seq];exact hu)
 have hls:xi (t.lay 0++t.lay 0):=fun u hu=>by
  rcases zl.1 hu with hu|hu <;> exact h.ca.leaves u hu
 have hf:=Yb hls 0 m;rw [qQ,h3] at hf;have h4:=congrArg ym hf;have e1:=Vz t m;rw [hZ,jp] at e1;have e2:=Vz t m;rw [hY,jp] at e2;have e3:jY (L++zT []++R)=jY L+jY R:=(by rw [jp,jp];simp [qH,jY]);have e4:jY (L++zT []++R)=(t.lay 0++t.lay 0).length:=by
  unfold jY;rw [hf];rfl
 rw [zi] at e4;have z1:Z=[]:=VA (fun u hu=>hp u (by rw [hZ];simp [hu])) (by omega);have z2:Y=[]:=VA (fun u hu=>hp u (by rw [hY];simp [hu])) (by omega);subst z1 z2;rw [h3];simp at hZ hY;rw [← hZ,qH,qO,← hY,hZ]
theorem V5 {t:Tr} {k:Nat} (h:Canon t) (he:t.lv%2=0) (hk:2<=k) (hc:∀ l,l<=t.lv->xf (t.lay 0++t.lay 0) l=t.lay l++t.lay l):Canon (.pow t k)∧(Tr.pow t k).lay 0=(zd k (t.lay 0)).flatten:=by
 refine Jl h he hk fun l hl=>CutP.of (c:=t.lay (l+1)) ?_
 rw [← hc l (by omega),h.step,← hc (l+1) hl];rfl
end
section
open Go.RowKit Go.Maps
attribute [local go_sem] qt
theorem mrg_nil (lv:Nat):kB lv []=[]:=by
 unfold kB;split
 ·rfl
 ·split
  ·rfl
  ·simp [yK]
theorem GatOk.mle {a b:Tr} {s:List Tr} {m:Nat} {d e:qK} {M:List It} (h:GatOk a b s m d e M):M.length<=(zT M).length:=by
 by_cases he:m%2=0
 ·exact wN (h.run he)
 ·by_cases ht:yQ (m+1)=true
  ·exact vC (h.tie (by omega) ht)
  ·exact wN ((h.one (by omega) (by simpa using ht)).sg)
def ApaRel (X:Px) (b7:Nat) (T:Tr) (n:Nat) (N:List Nat) (w:World) (mm:Nat) (v9:Value) (wr:World):Prop :=
 ∃ (m lv:Nat) (X1:Px) (cs:Array Value) (pl:Value) (fl:List Fr) (il kl:Nat) (pr:Value) (fr:List Fr) (ir kr:Nat) (mv:Value) (rs:List ItR) (d e:qK),mm=T.lv-m∧m<=T.lv∧lv=m+1∧v9=.int .i64 lv∧SpI T T (T.lay 0++T.lay 0) n n m d e []∧(X.Ext X1∧zK X1∧X1.S=X.S∧SpIn X1 cs pl fl il kl pr fr ir kr mv rs d e []∧∀ l,l<=m->xf (T.lay 0++T.lay 0) l=T.lay l++T.lay l)∧St w N [pA X1,blk b7 (.cells cs 250),zc ze 265 8 pl fl,zc ze 265 8 pr fr,zc zj 254 4 mv rs] wr
theorem apart_c {X:Px} {x:Nat} {T:Tr} (hX:zK X) (hd:Den X.S x T) (hc:Canon T) (hln:2*(T.lay 0).length<=1048576) (w:World) (h:PH X w) :
  Calls zb 130 #[.pointer (some ⟨X.p,0,none⟩),.int .i64 x] w fun e w'=>∃ (b:Bool) (X':Px),e=.returned (.bool b)∧(b=true->∀ k,2<=k->Canon (.pow T k)∧(Tr.pow T k).lay 0=(zd k (T.lay 0)).flatten)∧X.Ext X'∧zK X'∧X'.S=X.S∧St w (pA X).fp [pA X'] w':=by
 have h:((pA X).sep deA).ho w:=h;rw [qz] at h;obtain ⟨k1,k2,hdd⟩:=h;have H:=St.one k1;have HK:Ks w (pA X).fp [deA]:=⟨by simpa using k2,by simpa using fun b hb hm=>hdd b hm hb⟩
 generalize (pA X).fp=N at *;clear k1 k2 hdd;have hid:IdIs X.S x (T.lay 0):=.inr ⟨_,hd,hc,rfl⟩;have hlv:T.lv<=25339:=ZE hc (by omega);have hpos:=kG hc;obtain ⟨n,hn⟩:∃ n,(T.lay 0).length=n:=⟨_,rfl⟩
 have hTl:T.len=n:=(by rw [← xP hc.gd];exact hn);rw [hn] at hln hpos;obtain ⟨L,hL⟩:∃ L,T.lev=some L:=hc.lev;have hLv:T.lv=L:=wv hL;have HSZ:Hid (∀ w,(pA X).ho w->Calls zb 92 #[.pointer (some ⟨X.p,0,none⟩),.int .i64 x] w fun e w'=>e=.returned (.int .i64 (n:Nat))∧St w [] [] w'):=zh fun w h=>by have:=kY hX hid w h;rwa [hn] at this
 have HN1:Hid (∀ w,((pA X).sep deA).ho w->Calls zb 147 #[.pointer (some ⟨X.p,0,none⟩),.int .i64 x,.int .i64 (n:Nat),.bool false] w (XA X T false n (pA X).fp w)):=zh fun w h=>Ze (bk:=false) hX (fun _=>hd) hc.gd hlv (by omega) w h
 have HN2:Hid (∀ X2:Px,X.Ext X2->zK X2->X2.S=X.S->∀ w,((pA X2).sep deA).ho w->Calls zb 147 #[.pointer (some ⟨X.p,0,none⟩),.int .i64 x,.int .i64 (n:Nat),.bool true] w (fun e w'=>∃ (X':Px) (pv':Value) (fs':List Fr) (id' ky':Nat) (d:qK),e=.returned (.agg #[.pointer (some ⟨X.p,0,none⟩),.bool true,pv',.int .i64 id',.int .u64 ky'])∧X2.Ext X'∧zK X'∧X'.S=X2.S∧PathOf X'.S true d.1 fs'∧(match d.2 with|some x=>Den X'.S id' x∧ky'=x.key|none=>id'=0∧ky'=0)∧(true=false->EndL T 0 d ((T.lay 0).take n))∧(true=true->EndR T 0 d ((T.lay 0).drop (T.len-n)))∧St w (pA X2).fp [pA X',zc ze 265 8 pv' fs'] w')):=zh fun X2 q1 q2 q3 w h=>by
  have:=Ze (bk:=true) (n:=n) q2 (fun _=>(by rw [q3];exact hd:Den X2.S x T)) hc.gd hlv (by omega) w h;rw [q1.p] at this;refine this.mono ?_;rintro e w' ⟨X',pv',fs',id',ky',d,rfl,q⟩;exact ⟨X',pv',fs',id',ky',d,by rw [q1.p],q⟩
 have HT:Hid (∀ X2:Px,X.Ext X2->zK X2->X2.S=X.S->∀ w,((pA X2).sep deA).ho w->Calls zb 91 #[.pointer (some ⟨X.p,0,none⟩),.int .i64 x] w (jL X2 (.tuple #[.int .i64 L,.nilIface]) (pA X2).fp w)):=zh fun X2 q1 q2 q3 w h=>by
  have:=top_p q2 (by rw [q3];exact hd) w h;rw [q1.p,hL] at this;exact this
 have HIN:Hid (Canon T∧T.lv=L∧L<=25339∧(T.lay 0).length=n∧1<=n∧2*n<=1048576∧T.len=n):=zh ⟨hc,hLv,by omega,hn,hpos,hln,hTl⟩;have HST:Hid (∀ d e,EndL T 0 d ((T.lay 0).take n)->EndR T 0 e ((T.lay 0).drop (T.len-n))->SpI T T (T.lay 0++T.lay 0) n n 0 d e []):=zh fun d e h1 h2=>by
  rw [hTl,QL] at h2;have h4:=SpI.start hc hc h1 h2;rw [← hn,jx,yw,Nat.sub_zero] at h4;rw [← hn];exact h4
 have HLF:Hid (xi (T.lay 0++T.lay 0)∧(T.lay 0++T.lay 0).length<=1048576):=zh ⟨fun t ht=>(zl.1 ht).elim (hc.leaves t) (hc.leaves t),by rw [zi];omega⟩;have d6:∀ o,L%2=o->(L:Int).tmod 2=o:=fun o h=>by rw [jz (by omega)];omega
 have hL2:L<=25339:=(by omega);clear hX hd hid hc hlv hpos hTl hL hln hn;by_cases hpar:L%2=0
 case neg =>
  have tm:(L:Int).tmod 2=1:=d6 1 (by omega);have tm2:(L:Int)%2=1:=(by omega);clear d6 hpar hLv;go_enter Tryz.func130,Tryz.ntmps130;go_wp2_with (first|refine sL ?_|(refine sS ?_;clear H;intros;rename_i H)|(go_at_call 92;with_reducible refine zm (HSZ.out _ (H.get pk)) ?_;rintro e9 wc ⟨rfl,hb⟩;replace H:=H.grew hb.below;clear hb)|(first|(go_at_call 147;with_reducible refine zm (HN1.out _ (H.sepK HK pk pk)) ?_;rintro e9 wc ⟨X2,pl,fl,il,kl,dl,rfl,y1,y2,y3,y4,y5,y6,y7,hb⟩;have HYL:=zh (za y1 (za y2 (za y3 (za y4 (za y5 (za y6 y7))))));clear y1 y2 y3 y4 y5 y6 y7;replace H:=zn ((H.pick pk).call hb);clear hb;obtain ⟨al,cl,e8,_⟩:=zE (H.get (A:=zc ze 265 8 pl fl) pk);obtain ⟨nl,e7⟩:∃ l,fl.length=l:=⟨_,rfl⟩;rw [e7] at e8;clear e7;subst e8)|(go_at_call 147;with_reducible refine zm (HN2.out X2 HYL.out.1 HYL.out.2.1 HYL.out.2.2.1 _ (H.sepK HK pk pk)) ?_;rintro e9 wc ⟨X3,pr,fr,ir,kr,dr,rfl,y1,y2,y3,y4,y5,y6,y7,hb⟩;have HYR:=zh (za y1 (za y2 (za y3 (za y4 (za y5 (za y6 y7))))));clear y1 y2 y3 y4 y5 y6 y7;replace H:=zn ((H.pick pk).call hb);clear hb;obtain ⟨ar,cr,e8,_⟩:=zE (H.get (A:=zc ze 265 8 pr fr) pk);obtain ⟨nr,e7⟩:∃ l,fr.length=l:=⟨_,rfl⟩;rw [e7] at e8;clear e7;subst e8))|(go_at_call 91;with_reducible refine zm (HT.out X3 (HYL.out.1.trans HYR.out.1) HYR.out.2.1 (HYR.out.2.2.1.trans HYL.out.2.2.1) _ (H.sepK HK pk pk)) ?_;rintro e9 wc ⟨X4,y1,y2,y3,rfl,hb⟩;have HZ:=zh (za y1 (za y2 y3));clear y1 y2 y3;replace H:=zn ((H.pick pk).call hb);clear hb));go_ret;exact ⟨false,X4,rfl,(fun h=>by cases h),HYL.out.1.trans (HYR.out.1.trans HZ.out.1),HZ.out.2.1,HZ.out.2.2.trans (HYR.out.2.2.1.trans HYL.out.2.2.1),H.picks (.cons pk .nil)⟩
 have tm:(L:Int).tmod 2=0:=d6 0 hpar;have tm2:(L:Int)%2=0:=(by omega);have HPAR:=zh hpar;clear d6 hpar hLv;go_enter Tryz.func130,Tryz.ntmps130;go_wp2_with (first|refine sL ?_|(refine sS ?_;clear H;intros;rename_i H)|(go_at_call 92;with_reducible refine zm (HSZ.out _ (H.get pk)) ?_;rintro e9 wc ⟨rfl,hb⟩;replace H:=H.grew hb.below;clear hb)|(first|(go_at_call 147;with_reducible refine zm (HN1.out _ (H.sepK HK pk pk)) ?_;rintro e9 wc ⟨X2,pl,fl,il,kl,dl,rfl,y1,y2,y3,y4,y5,y6,y7,hb⟩;have HYL:=zh (za y1 (za y2 (za y3 (za y4 (za y5 (za y6 y7))))));clear y1 y2 y3 y4 y5 y6 y7;replace H:=zn ((H.pick pk).call hb);clear hb;obtain ⟨al,cl,e8,_⟩:=zE (H.get (A:=zc ze 265 8 pl fl) pk);obtain ⟨nl,e7⟩:∃ l,fl.length=l:=⟨_,rfl⟩;rw [e7] at e8;clear e7;subst e8)|(go_at_call 147;with_reducible refine zm (HN2.out X2 HYL.out.1 HYL.out.2.1 HYL.out.2.2.1 _ (H.sepK HK pk pk)) ?_;rintro e9 wc ⟨X3,pr,fr,ir,kr,dr,rfl,y1,y2,y3,y4,y5,y6,y7,hb⟩;have HYR:=zh (za y1 (za y2 (za y3 (za y4 (za y5 (za y6 y7))))));clear y1 y2 y3 y4 y5 y6 y7;replace H:=zn ((H.pick pk).call hb);clear hb;obtain ⟨ar,cr,e8,_⟩:=zE (H.get (A:=zc ze 265 8 pr fr) pk);obtain ⟨nr,e7⟩:∃ l,fr.length=l:=⟨_,rfl⟩;rw [e7] at e8;clear e7;subst e8))|(go_at_call 91;with_reducible refine zm (HT.out X3 (HYL.out.1.trans HYR.out.1) HYR.out.2.1 (HYR.out.2.2.1.trans HYL.out.2.2.1) _ (H.sepK HK pk pk)) ?_;rintro e9 wc ⟨X4,y1,y2,y3,rfl,hb⟩;have HZ:=zh (za y1 (za y2 y3));clear y1 y2 y3;replace H:=zn ((H.pick pk).call hb);clear hb));rename_i b7 _ _ _ _;go_loopg [9] (T.lv) (fun mm v9 wr=>ApaRel X b7 T n N w mm v9 wr);case atStart =>
  have hy:=HYL.out;have hz:=HYR.out;have hw:=HZ.out;have hE:=hy.1.trans (hz.1.trans hw.1);have hS4:X4.S=X.S:=hw.2.2.trans (hz.2.2.1.trans hy.2.2.1);have hsp:=HST.out dl dr (hy.2.2.2.2.2.1 (by first|rfl|trivial)) (hz.2.2.2.2.2.2 (by first|rfl|trivial));refine ⟨0,1,X4,#[.pointer (some ⟨X.p,0,none⟩),.pointer (some ⟨X.p,0,none⟩),.bool false,.slice al nl cl,.int .i64 il,.int .u64 kl,.pointer (some ⟨X.p,0,none⟩),.bool true,.slice ar nr cr,.int .i64 ir,.int .u64 kr,.slice none 0 0],.slice al nl cl,fl,il,kl,.slice ar nr cr,fr,ir,kr,.slice none 0 0,[],dl,dr,rfl,by omega,rfl,rfl,hsp,⟨hE,hw.2.1,hS4,⟨rfl,by rw [hE.p];rfl,rfl,⟨⟨by simp,by rw [hE.p];rfl,rfl,rfl,rfl,rfl⟩,by rw [hw.2.2,hz.2.2.1];exact hy.2.2.2.1,by rw [hw.2.2,hz.2.2.1];exact hy.2.2.2.2.1⟩,⟨⟨by simp,by rw [hE.p];rfl,rfl,rfl,rfl,rfl⟩,by rw [hw.2.2];exact hz.2.2.2.1,by rw [hw.2.2];exact hz.2.2.2.2.1⟩,trivial⟩,fun l hl=>(by obtain rfl:=Nat.le_zero.1 hl;rfl)⟩,(H.empty (A:=zc zj 254 4 (.slice none 0 0) []) (qq _) (by rw [qW];rfl)).picks (.cons (A:=pA X4) pk (.cons (A:=blk b7 (.cells #[.pointer (some ⟨X.p,0,none⟩),.pointer (some ⟨X.p,0,none⟩),.bool false,.slice al nl cl,.int .i64 il,.int .u64 kl,.pointer (some ⟨X.p,0,none⟩),.bool true,.slice ar nr cr,.int .i64 ir,.int .u64 kr,.slice none 0 0] 250)) pk (.cons (A:=zc ze 265 8 (.slice al nl cl) fl) pk (.cons (A:=zc ze 265 8 (.slice ar nr cr) fr) pk (.cons (A:=zc zj 254 4 (.slice none 0 0) []) pk .nil)))))⟩
 case round =>
  clear H HYL HYR HZ HN1 HN2 HT HSZ HST;obtain ⟨m,lv,X1,cs,pl,fl,il,kl,pr,fr,ir,kr,mv,rs,d,e,rfl,hm,hlv,rfl,hI,hrel,H⟩:=hrel;have HLV:=zh hlv;have HI:=zh hI;have HREL:=zh hrel;have hlvL:=HIN.out.2.1;have hlvb:lv<=25340:=(by omega);by_cases hend:m<L
  ·have d5:decide ((L:Int)<(lv:Int))=false:=(by simp;omega);have d5n:decide (L<lv)=false:=(by simp;omega);have d7:decide ((lv:Int)<=(L:Int))=true:=(by simp;omega);have d7n:decide (lv<=L)=true:=(by simp;omega);have HGA:Hid (∀ w,(((pA X1).sep ((blk b7 (.cells cs 250)).sep ((zc ze 265 8 pl fl).sep ((zc ze 265 8 pr fr).sep (zc zj 254 4 mv rs))))).sep deA).ho w->Calls zb 148 #[.pointer (some ⟨b7,0,none⟩),.int .i64 lv] w fun x w'=>∃ d1 e2 M2,GatR lv d e [] d1 e2 M2∧jB X1 b7 ((pA X1).sep ((blk b7 (.cells cs 250)).sep ((zc ze 265 8 pl fl).sep ((zc ze 265 8 pr fr).sep (zc zj 254 4 mv rs))))).fp w (.tuple #[]) d1 e2 M2 x w'):=zh fun w h=>Vn HREL.out.2.1 HREL.out.2.2.2.1 HI.out HLV.out (by omega) (by have:=HIN.out;rw [zi];omega) (by have:=HIN.out;omega) (by have:=HIN.out;omega) w h
   clear hlv hI hrel hlvL;go_wp2_with (first|refine sL ?_|(refine sS ?_;clear H;intros;rename_i H)|(go_at_call 148;with_reducible refine zm (HGA.out _ ((St.join5 (H.pick5 (A:=pA X1) (B:=blk b7 (.cells cs 250)) (C:=zc ze 265 8 pl fl) (D:=zc ze 265 8 pr fr) (E:=zc zj 254 4 mv rs) pk pk pk pk pk)).sepK HK pk pk)) ?_;rintro e9 wc ⟨d2,e2,M2,hgr,X2,cs2,pl2,fl2,il2,kl2,pr2,fr2,ir2,kr2,mv2,rs2,rfl,y1,y2,y3,y4,hb⟩;have HY2:=zh (za hgr (za y1 (za y2 (za y3 y4))));clear hgr y1 y2 y3 y4;replace H:=zn ((St.join5 (H.pick5 (A:=pA X1) (B:=blk b7 (.cells cs 250)) (C:=zc ze 265 8 pl fl) (D:=zc ze 265 8 pr fr) (E:=zc zj 254 4 mv rs) pk pk pk pk pk)).call hb);clear hb;obtain ⟨a9,c9,e9,_⟩:=zE (H.get (A:=zc zj 254 4 mv2 rs2) pk);obtain ⟨n3,hn3⟩:∃ l,rs2.length=l:=⟨_,rfl⟩;rw [hn3] at e9;have HN3:=zh hn3;clear hn3;subst e9;have D11:=zh HY2.out.2.2.2.2.c11;have hls:=HLF.out.2;have hok:=HI.out.gat HLF.out.1 (by have:=HY2.out.1;rwa [HLV.out] at this);have hn3b:n3<=1048576:=(by have h1:=hok.cnt;have h2:=HY2.out.2.2.2.2.its.len;have h3:=ZT (T.lay 0++T.lay 0) m;have h4:=HN3.out;have h5:=GatOk.mle hok;omega);have HOK:=zh (za hok hls);clear hok hls))
   ·go_ret;exact ⟨false,X2,rfl,(fun h=>by cases h),HREL.out.1.trans HY2.out.2.1,HY2.out.2.2.1,HY2.out.2.2.2.1.trans HREL.out.2.2.1,H.picks (.cons pk .nil)⟩
   ·have hz:n3=0:=(by omega);subst hz;have hs1:=HY2.out.2.2.2.2;have HS1:=zh hs1;have HUPL:Hid (∀ w,(((pA X2).sep ((blk b7 (.cells cs2 250)).sep (zc ze 265 8 pl2 fl2))).sep deA).ho w->Calls zb 152 #[.pointer (some ⟨b7,1,none⟩),.int .i64 lv] w (xY X2 false b7 1 250 cs2 (upT false lv d2) ((pA X2).sep ((blk b7 (.cells cs2 250)).sep (zc ze 265 8 pl2 fl2))).fp w (.tuple #[]))):=zh fun w h=>KW HY2.out.2.2.1 HS1.out.left HOK.out.1.z1 HIN.out.1.gd (by have:=HIN.out;omega) (by omega) w h
    clear hs1;(go_at_call 152;with_reducible refine zm (HUPL.out _ ((St.join3 (H.pick3 (A:=pA X2) (B:=blk b7 (.cells cs2 250)) (C:=zc ze 265 8 pl2 fl2) pk pk pk)).sepK HK pk pk)) ?_;rintro e9 wc ⟨X3,cs3,pl3,fl3,il3,kl3,rfl,y1,y2,y3,y4,y5,hb⟩;have HUL:=zh (za y1 (za y2 (za y3 (za y4 y5))));clear y1 y2 y3 y4 y5;replace H:=zn ((St.join3 (H.pick3 (A:=pA X2) (B:=blk b7 (.cells cs2 250)) (C:=zc ze 265 8 pl2 fl2) pk pk pk)).call hb);clear hb)
    have hs3:=HS1.out.afterL HY2.out.2.2.1.ok HUL.out.1 HUL.out.2.2.2.1 HUL.out.2.2.2.2;have HS3:=zh hs3;have HUPR:Hid (∀ w,(((pA X3).sep ((blk b7 (.cells cs3 250)).sep (zc ze 265 8 pr2 fr2))).sep deA).ho w->Calls zb 152 #[.pointer (some ⟨b7,6,none⟩),.int .i64 lv] w (xY X3 true b7 6 250 cs3 (upT true lv e2) ((pA X3).sep ((blk b7 (.cells cs3 250)).sep (zc ze 265 8 pr2 fr2))).fp w (.tuple #[]))):=zh fun w h=>KW HUL.out.2.1 HS3.out.right HOK.out.1.z2 HIN.out.1.gd (by have:=HIN.out;omega) (by omega) w h
    clear hs3;go_wp2_with (first|refine sL ?_|(refine sS ?_;clear H;intros;rename_i H)|(go_at_call 152;with_reducible refine zm (HUPR.out _ ((St.join3 (H.pick3 (A:=pA X3) (B:=blk b7 (.cells cs3 250)) (C:=zc ze 265 8 pr2 fr2) pk pk pk)).sepK HK pk pk)) ?_;rintro e9 wc ⟨X4,cs4,pr4,fr4,ir4,kr4,rfl,y1,y2,y3,y4,y5,hb⟩;have HUR:=zh (za y1 (za y2 (za y3 (za y4 y5))));clear y1 y2 y3 y4 y5;replace H:=zn ((St.join3 (H.pick3 (A:=pA X3) (B:=blk b7 (.cells cs3 250)) (C:=zc ze 265 8 pr2 fr2) pk pk pk)).call hb);clear hb));have hM2:M2=[]:=(by have h1:=HY2.out.2.2.2.2.its.len;rw [HN3.out] at h1;exact qe (by omega))
    have hr2:rs2=[]:=qe HN3.out;have h4:=HS3.out.afterR HUL.out.2.1.ok HUR.out.1 HUR.out.2.2.2.1 HUR.out.2.2.2.2;have hnx:=HI.out.next (by have:=HY2.out.1.lev;rwa [HLV.out] at this)
    rw [← HLV.out,hM2,mrg_nil] at hnx;rw [hM2] at h4;have HNX:=zh hnx;have HS4:=zh h4;clear hnx h4 hM2;go_roundg (T.lv-(m+1));case measure=>have:=HIN.out;omega
    case rel =>
     refine ⟨m+1,lv+1,X4,cs4,pl3,fl3,il3,kl3,pr4,fr4,ir4,kr4,.slice a9 0 c9,rs2,_,_,rfl,by have:=HIN.out;omega,by rw [HLV.out],by simp,by have:=HNX.out;rw [HLV.out] at this;rw [HLV.out];exact this,⟨HREL.out.1.trans (HY2.out.2.1.trans (HUL.out.1.trans HUR.out.1)),HUR.out.2.1,HUR.out.2.2.1.trans (HUL.out.2.2.1.trans (HY2.out.2.2.2.1.trans HREL.out.2.2.1)),HS4.out,fun l hl=>?_⟩,H.picks (.cons pk (.cons pk (.cons pk (.cons pk (.cons pk .nil)))))⟩;rcases yI l (m+1) with h5|h5
     ·exact HREL.out.2.2.2.2 l (by omega)
     ·obtain rfl:l=m+1:=by omega
      have h6:=HNX.out;rw [HLV.out] at h6;exact h6.both
  ·have d5:decide ((L:Int)<(lv:Int))=true:=(by simp;omega);have d5n:decide (L<lv)=true:=(by simp;omega);have d7:decide ((lv:Int)<=(L:Int))=false:=(by simp;omega);have d7n:decide (lv<=L)=false:=(by simp;omega);have hmL:m=T.lv:=(by omega);have HML:=zh hmL;clear hlv hI hrel hlvL hmL;go_wp2_with (first|refine sL ?_|(refine sS ?_;clear H;intros;rename_i H));go_ret;refine ⟨true,X1,rfl,fun _ k hk=>V5 HIN.out.1 (by rw [HIN.out.2.1];exact HPAR.out) hk fun l hl=>HREL.out.2.2.2.2 l (by rw [HML.out];exact hl),HREL.out.1,HREL.out.2.1,HREL.out.2.2.1,H.picks (.cons pk .nil)⟩
end
section
open Go.RowKit Go.Maps
attribute [local go_sem] qt
end
section
open Go.RowKit Go.Maps
attribute [local go_sem] qt
end
section
open Go.RowKit Go.Maps
attribute [local go_sem] qt
end
section
open Go.RowKit Go.Maps
attribute [local go_sem] qt
end
end Go.Proofs.YtgnppnokkdghcaaGreatDoor
