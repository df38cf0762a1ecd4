/-
  Part 1 of the texts behind the statements of this seat: walks and laws Lib, Grow, Qt, Qa, Rw, Sep, Sq, Rg, Sg, Ty, Sr, Sm, Rq, Sk. Conditions: as each states.
-/
import Derived.BigQuiet
import Derived.BigRegion
import Derived.Deep.Draws
import Derived.Deep.MidRow
import Derived.Deep.RegionWith
import Derived.DeepKeys5
import Derived.Great.BuildSlice
import Derived.Laws.AppendOwn
import Derived.Laws.CopyRow
import Derived.Laws.OwnMore
import Derived.Lib.Hide
import Derived.Lib.QuietBelow
import Derived.Maps.Keyed
import Derived.OwnWalk
import Derived.StillTail
import Derived.Test.YtminpdngkjlehaaDoorRows
import Derived.WalkKit
set_option linter.unusedSimpArgs false
set_option linter.unusedVariables false
set_option maxRecDepth 100000
set_option maxHeartbeats 80000000
open Array renaming any_eq_true'→jN,ext_getElem?→yE,getD_eq_getD_getElem?→q8,getElem?_eq_none→yq,getElem?_eq_some_iff→xk,getElem?_modify→Z4,getElem?_setIfInBounds→YX,getElem?_setIfInBounds_ne→wT,getElem?_setIfInBounds_self→ZT,getElem?_toList→Zn,replicate→YY,setIfInBounds_eq_of_size_le→Qi
open Bool renaming and_eq_true→zf,false_eq_true→kQ,or_eq_true→qK
open Go.Proofs.Tryd renaming prog→z6
open List renaming Perm→yd,all_eq_true→zZ,append_assoc→y7,append_nil→xH,cons→je,cons_append→z7,drop_eq_nil_of_le→Zl,drop_of_length_le→xg,drop_succ_cons→wO,drop_zero→y8,eq_nil_of_length_eq_zero→qI,flatMap_cons→kR,foldl_cons→zQ,foldl_nil→zY,getD_eq_getElem?_getD→ze,getElem?_append_left→zv,getElem?_append_right→qu,getElem?_cons_succ→qD,getElem?_drop→xN,getElem?_eq_some_iff→zy,getElem?_map→zq,getElem?_range→xP,getElem?_replicate→yT,getElem?_take→wZ,length_append→zN,length_cons→yZ,length_replicate→jE,length_take→yD,map_cons→qU,map_nil→k6,map_toArray→jt,mem_append→zt,mem_append_left→q6,mem_append_right→qx,mem_cons→zG,mem_cons_of_mem→qv,mem_cons_self→zS,mem_flatMap→qP,mem_iff_getElem?→yj,mem_map→zC,mem_of_getElem?→zc,mem_range→zo,mem_singleton→zV,nil_append→z8,nodup_append→jr,pairwise_cons→zK,range→zl,replicate→zI,replicate_succ→QQ,setIfInBounds_toArray→zd,take_of_length_le→zM,take_succ_eq_append_getElem→jh,take_zero→jG
open Nat renaming add_mul→kC,beq→ve,ble→Xa,eq_of_beq_eq_true→x7,le_mul_of_pos_right→Zp,le_refl→zp,le_trans→qs,lt_of_lt_of_le→qO,lt_or_ge→zD,lt_trichotomy→yG,min_eq_left→wi,mul_le_mul_right→kV,strongRecOn→k7,sub_self→Z6,zero_add→qA,zero_le→zH
open Option renaming getD_some→qV,map_some→xj,some→yz
namespace Go.Proofs.YtminpdngkjlehaaDoor
section
open Go.RowKit
theorem zh {P : Prop} (h : P) : Hid P := Lib.hid h
theorem za {a b : Prop} (x : a) (y : b) : a ∧ b := ⟨x, y⟩
abbrev zm := @Calls.mono
abbrev zg := @List.getElem?_eq_getElem
theorem zn {P Q : Prop} (p : P) (h : P → Q := by intro h; simp only [z7, z8] at h; exact h) : Q := h p
end
section
open Go.RowKit
section
variable {P:Program} {ops:Array Oper} {rest:List Oper} {o:Oper} {a:Act} {w:World} {Q:Exit->Act->World->Prop}
theorem qT (hgd:o.guard=none) (ty:TypeId) (ho:o.op=.alloc ty) (arr:Array Value)
  (hz:∀ w,(zeroValue ty).run P w=.ok (.agg arr) w)
  (h:wpList P ops Q rest (a.put o.dst (.pointer (some ⟨w.heap.size,0,none⟩))) (w.alloc (.cells arr ty))) :
  wpList P ops Q (o::rest) a w :=
 wpList_plain hgd fun _ hK=>by
  unfold Oper.wp execOp;simp only [ho,Instr.alloc,Sem.run_bind,hz,Result.andThen_ok,newVar,newRow,Value.cells,run_newObj_alloc,Sem.run_pure];exact hK _ _ h
theorem qr (hgd:o.guard=none) (ty:TypeId) (x y:Operand) (ho:o.op=.store ty x y)
  (g:Nat) (hx:a.eval x=.pointer (some ⟨g,0,none⟩)) (cs:Array Value) (hy:a.eval y=.agg cs) (t:TypeId) (old:Array Value)
  (hg:w.heap[g]?=some (.cells old t)) (hi:(P.info? ty).map (·.size)=some cs.size) (hsz:old.size=cs.size) (h1:cs.all (·.oneCell')=true)
  (h:wpList P ops Q rest (a.put o.dst undef) (w.setRow g cs)):wpList P ops Q (o::rest) a w :=
 wpList_plain hgd fun _ hK=>by
  unfold Oper.wp execOp;simp only [ho,hx,hy,Instr.storeAt,Instr.sureAddr,Sem.run_bind,Sem.run_pure,Result.andThen_ok,run_storeVar_row w g t ty old cs hg hi hsz h1];exact hK _ _ h
end
theorem Wv {B:Nat} {w w':World} (h:Below B w w') {g:Nat} {o:Obj} (hB:g<B) (hg:w.heap[g]?=some o):w'.heap[g]?=some o:=(h.block g hB).trans hg
theorem qE {w w':World} (h:Below w.heap.size w w') {g:Nat} {o:Obj} (hg:w.heap[g]?=some o):w'.heap[g]?=some o:=Wv h (lt_of_block hg) hg
theorem heap1 (w:World) (o:Obj):(w.alloc o).heap[w.heap.size]?=some o:=heap_alloc_new w o
theorem qS (w:World) (o:Obj) (g:Nat) (hg:g=w.heap.size):(w.alloc o).heap[g]?=some o:=by subst hg;exact heap_alloc_new w o
theorem yJ (w:World) (o:Obj) (g:Nat) (hg:g<w.heap.size):(w.alloc o).heap[g]?=w.heap[g]?:=_root_.Go.heap_alloc_old w o hg
theorem j7 (w:World) (n:Nat) (a:Addr) (v:Value):(w.drewN n).setCell a v=(w.setCell a v).drewN n:=rfl
theorem ju (w:World) (n:Nat) (g:Nat) (v:Array Value):(w.drewN n).setRow g v=(w.setRow g v).drewN n:=rfl
theorem jj {B:Nat} {a w:World} (h:Below B a w) (n:Nat):Below B a (w.drewN n):=⟨h.os,h.tape,h.output,h.size,h.block⟩
theorem yQ (w:World) (old cs:Array Value) (t:TypeId) (g:Nat) (hg:g=w.heap.size):(w.alloc (.cells old t)).setRow g cs=w.alloc (.cells cs t):=by
 subst hg;unfold World.setRow World.alloc;congr 1
 apply yE;intro k;rw [Z4];by_cases hk:w.heap.size=k
 ·subst hk;simp
 ·have hk':k≠w.heap.size:=fun e=>hk e.symm
  simp [hk,hk',Array.getElem?_push]
theorem jZ (w:World) (o:Obj) (cs:Array Value) (g:Nat) (hg:g<w.heap.size):(w.alloc o).setRow g cs=(w.setRow g cs).alloc o:=by
 unfold World.setRow World.alloc;congr 1
 apply yE;intro k;simp only [Z4,Array.getElem?_push,Array.size_modify];by_cases hk:k=w.heap.size
 ·simp [hk];omega
 ·simp [hk]
end
section
open Go.RowKit
section
variable {P:Program} {ops:Array Oper}
def qW (ops:Array Oper) (i:Nat):Option Tmp:=(ops[i]?).bind (·.dst)
def qe (ops:Array Oper) (vals:Nat->Value) (is:List Nat) (a:Act):Act:=is.foldl (fun a i=>a.put (qW ops i) (vals i)) a
theorem vQ (vals:Nat->Value) (is:List Nat) (i:Nat) (a:Act):qe ops vals (is++[i]) a=(qe ops vals is a).put (qW ops i) (vals i):=by simp [qe]
theorem YF (a:Act) (d:Option Tmp) (v:Value):(a.put d v).tmps.size=a.tmps.size:=by cases d <;> simp [Act.put]
theorem K4 (a:Act) (d:Option Tmp) (v:Value):(a.put d v).defers=a.defers:=by cases d <;> rfl
theorem XE (vals:Nat->Value):∀ (is:List Nat) (a:Act),(qe ops vals is a).tmps.size=a.tmps.size
 |[],_=>rfl
 |i::is,a=>by
  have:=XE vals is (a.put (qW ops i) (vals i));simpa [qe,YF] using this
theorem xw (vals:Nat->Value):∀ (is:List Nat) (a:Act),(qe ops vals is a).defers=a.defers
 |[],_=>rfl
 |i::is,a=>by
  have:=xw vals is (a.put (qW ops i) (vals i));simpa [qe,K4] using this
theorem ww {vals vals':Nat->Value}:∀ (is:List Nat) (a:Act),(∀ i∈is,vals i=vals' i)->qe ops vals is a=qe ops vals' is a
 |[],_,_=>rfl
 |i::is,a,h=>by
  have:=ww is (a.put (qW ops i) (vals i)) fun j hj=>h j (qv _ hj)
  simp only [qe,zQ] at this ⊢;rw [this,h i (zS ..)]
theorem xW (vals:Nat->Value) (t:Tmp):∀ (is:List Nat) (a:Act),(∀ i∈is,qW ops i≠some t)->(qe ops vals is a).tmps[t]?=a.tmps[t]?
 |[],_,_=>rfl
 |i::is,a,h=>by
  have:=xW vals t is (a.put (qW ops i) (vals i)) fun j hj=>h j (qv _ hj)
  simp only [qe,zQ] at this ⊢;rw [this];have h0:=h i (zS ..);cases hd:qW ops i with
  |none=>rfl
  |some d =>
   have hne:d≠t:=fun e=>h0 (by rw [hd,e])
   simp [Act.put,wT hne]
theorem jU (vals:Nat->Value) (t:Tmp) (i:Nat) (hi:qW ops i=some t):∀ (is:List Nat) (a:Act),i∈is->(∀ j∈is,qW ops j=some t->j=i) ->
  (qe ops vals is a).tmps[t]?=if t<a.tmps.size then some (vals i) else none
 |[],_,h,_=>by cases h
 |j::is,a,h,hu=>by
  by_cases hm:i∈is
  ·have:=jU vals t i hi is (a.put (qW ops j) (vals j)) hm fun k hk=>hu k (qv _ hk)
   simp only [qe,zQ] at this ⊢;rw [this,YF]
  ·obtain rfl:i=j:=by
    cases h with
    |head=>rfl
    |tail _ h=>exact absurd h hm
   have:=xW (ops:=ops) vals t is (a.put (qW ops i) (vals i)) fun k hk e=>hm (by rw [← hu k (qv _ hk) e];exact hk)
   simp only [qe,zQ] at this ⊢;rw [this,hi];by_cases ht:t<a.tmps.size
   ·simp [Act.put,ht]
   ·simp [Act.put,ht]
theorem Qb (vals:Nat->Value) (t:Tmp) (hu:∀ i j,qW ops i=some t->qW ops j=some t->i=j) (is js:List Nat) (a:Act)
  (h:∀ i,qW ops i=some t->(i∈is↔i∈js)):(qe ops vals is a).tmps[t]?=(qe ops vals js a).tmps[t]?:=by
 by_cases he:∃ i∈is,qW ops i=some t
 ·obtain ⟨i,hi,hd⟩:=he;rw [jU vals t i hd is a hi fun j _ hj=>hu j i hj hd,jU vals t i hd js a ((h i hd).1 hi) fun j _ hj=>hu j i hj hd]
 ·have h1:∀ i∈is,qW ops i≠some t:=fun i hi e=>he ⟨i,hi,e⟩
  have h2:∀ i∈js,qW ops i≠some t:=fun i hi e=>he ⟨i,(h i e).2 hi,e⟩
  rw [xW vals t is a h1,xW vals t js a h2]
abbrev Grew (w w':World):Prop:=Below w.heap.size w w'
theorem Grew.trans {a b c:World} (h:Grew a b) (k:Grew b c):Grew a c:=Below.trans h (Below.mono k h.size)
def jK (P:Program) (w:World) (R:Value->World->Prop):Result Next->Prop
 |.ok (.value v) w'=>Grew w w'∧R v w'
 |.ok .skip w'=>Grew w w'∧R undef w'
 |.ok (.enter f args) w'=>Grew w w'∧Calls P f args w' fun e w''=>∃ v,e=.returned v∧Grew w' w''∧R v w''
 |_=>False
def jp (P:Program) (o:Oper) (a:Act) (w:World) (R:Value->World->Prop):Prop:=jK P w R ((execOp a.eval o).run P w)
def kP (ops:Array Oper) (i k:Nat):Bool :=
 match ops[i]? with
 |none=>false
 |some o=>o.after.any fun e=>Region.binds .any e&&e.on==k
def qt (ops:Array Oper) (k:Nat):List Nat :=
 match ops[k]? with
 |none=>[]
 |some o=>(zl ops.size).filter fun i=>(match qW ops i with|some t=>(o.looksAt ops).contains t|none=>false) && !kP ops i k
def xJ (ops:Array Oper):Nat->Nat->Nat->Bool
 |0,_,_=>false
 |f+1,k,i=>match ops[k]? with
  |none=>false
  |some o=>o.after.any fun e=>Region.binds .any e&&(e.on==i || xJ ops f e.on i)
def Xp (ops:Array Oper) (m:Nat) (T:List Nat:=[]):Bool :=
 Region.noSelect ops&&decide (m<=ops.size) &&
 ((zl ops.size).all fun i=>(zl ops.size).all fun j=>decide (i=j) || (qW ops i).isNone || qW ops i != qW ops j) &&
 ((zl ops.size).all fun k=>match ops[k]? with
  |none=>true
  |some o=>(o.after.all fun e=>!Region.binds .any e || decide (e.on<k)) &&
   ((qt ops k).all fun i=>o.after.any fun e=>Region.binds .any e&&e.on==i) &&
   (decide (k<m) || ((zl k).all fun i=>T.contains i || xJ ops ops.size k i)))
structure kD (ops:Array Oper) (m:Nat) (T:List Nat:=[]):Prop where
 sel:Region.noSelect ops=true
 le:m<=ops.size
 uniq:∀ i j t,qW ops i=some t->qW ops j=some t->i=j
 back:∀ (k:Nat) (o:Oper),ops[k]?=some o->∀ e∈o.after,Region.binds .any e=true->e.on<k
 deps:∀ (k:Nat) (o:Oper),ops[k]?=some o->∀ i∈qt ops k,∃ e∈o.after,Region.binds .any e=true∧e.on=i
 tail:∀ (k:Nat) (o:Oper),ops[k]?=some o->m<=k->∀ i,i<k->i ∉ T->xJ ops ops.size k i=true
theorem Ym {i:Nat} {t:Tmp} (h:qW ops i=some t):i<ops.size:=by
 rcases zD i ops.size with h'|h'
 ·exact h'
 ·simp [qW,yq h'] at h
theorem vI {m:Nat} {T:List Nat} (h:Xp ops m T=true):kD ops m T:=by
 simp only [Xp,zf,decide_eq_true_eq] at h;obtain ⟨⟨⟨h1,h2⟩,h3⟩,h4⟩:=h;have h4':∀ (k:Nat) (o:Oper),ops[k]?=some o->_:=fun k o ho=>by
  have:=zZ.1 h4 k (zo.2 (xk.1 ho).1);rw [ho] at this;simp only [zf] at this;exact this
 refine ⟨h1,h2,fun i j t hi hj=>?_,fun k o ho e he hb=>?_,fun k o ho i hi=>?_,fun k o ho hk i hi hT=>?_⟩
 ·have:=zZ.1 (zZ.1 h3 i (zo.2 (Ym hi))) j (zo.2 (Ym hj));rw [hi,hj] at this;simpa using this
 ·have:=Array.all_eq_true_iff_forall_mem.1 (h4' k o ho).1.1 e he;rw [hb] at this;simpa using this
 ·have:=zZ.1 (h4' k o ho).1.2 i hi;obtain ⟨e,he,hb⟩:=jN.1 this;simp only [zf,beq_iff_eq] at hb;exact ⟨e,he,hb.1,hb.2⟩
 ·have:=(h4' k o ho).2;have hk':¬ k<m:=(by omega);simp only [hk',decide_false,Bool.false_or] at this;have:=zZ.1 this i (zo.2 hi);simpa [hT] using this
theorem vw {order:List Nat} (hC:∀ k∈order,∀ o,ops[k]?=some o->∀ e∈o.after,Region.binds .any e=true->e.on∈order):∀ (f k i:Nat) (o:Oper),ops[k]?=some o ->
  (∀ e∈o.after,Region.binds .any e=true->e.on∈order)->xJ ops f k i=true->i∈order
 |0,_,_,_,_,_,h=>by cases h
 |f+1,k,i,o,ho,hall,h=>by
  unfold xJ at h;rw [ho] at h;obtain ⟨e,he,hb⟩:=jN.1 h;simp only [zf,qK,beq_iff_eq] at hb;have hin:=hall e he hb.1;rcases hb.2 with h1|h1
  ·rw [← h1];exact hin
  ·cases ho':ops[e.on]? with
   |none =>
    cases f with
    |zero=>cases h1
    |succ f=>unfold xJ at h1;rw [ho'] at h1;cases h1
   |some o'=>exact vw hC f e.on i o' ho' (hC e.on hin o' ho') h1
theorem KT {order:List Nat} (hC:∀ k∈order,∀ o,ops[k]?=some o->∀ e∈o.after,Region.binds .any e=true->e.on∈order) {j:Nat} (hj:j ∉ order):∀ i∈order,kP ops i j=false:=fun i hi=>by
 cases h:kP ops i j with
 |false=>rfl
 |true =>
  unfold kP at h;cases ho:ops[i]? with
  |none=>rw [ho] at h;cases h
  |some o =>
   rw [ho] at h;obtain ⟨e,he,hb⟩:=jN.1 h;simp only [zf,beq_iff_eq] at hb;exact absurd (hb.2 ▸ hC i hi o ho e he hb.1) hj
theorem Z0 {m:Nat} {T:List Nat} (hok:kD ops m T) (k:Nat):∀ i∈zl k,kP ops i k=false:=fun i hi=>by
 cases h:kP ops i k with
 |false=>rfl
 |true =>
  unfold kP at h;cases ho:ops[i]? with
  |none=>rw [ho] at h;cases h
  |some o =>
   rw [ho] at h;obtain ⟨e,he,hb⟩:=jN.1 h;simp only [zf,beq_iff_eq] at hb;have:=hok.back i o ho e he hb.1;have:=zo.1 hi;omega
theorem mem_deps {k i:Nat} {o:Oper} {t:Tmp} (ho:ops[k]?=some o) (hi:qW ops i=some t) (ht:t∈o.looksAt ops) (hw:kP ops i k=false):i∈qt ops k:=by
 unfold qt;rw [ho];refine List.mem_filter.2 ⟨zo.2 (Ym hi),?_⟩;rw [hi,hw];simpa using ht
theorem vG {m k:Nat} {T:List Nat} {o:Oper} (hok:kD ops m T) (ho:ops[k]?=some o) (vals:Nat->Value) (order:List Nat) (a:Act) (hd:∀ i∈qt ops k,i∈order) (hno:∀ i∈order,kP ops i k=false) :
  execOp (qe ops vals order a).eval o=execOp (qe ops vals (qt ops k) a).eval o ∧
  Region.wanted o (yielded ops (qe ops vals order a).tmps)=Region.wanted o (yielded ops (qe ops vals (qt ops k) a).tmps):=by
 have key:∀ t,t∈o.looksAt ops->(qe ops vals order a).tmps[t]?=(qe ops vals (qt ops k) a).tmps[t]?:=fun t ht =>
  Qb vals t (fun i j=>hok.uniq i j t) order (qt ops k) a fun i hi=>⟨fun h=>mem_deps ho hi ht (hno i h),fun h=>hd i h⟩
 refine ⟨execOp_congr o (fun cs b=>Region.noSelect_spec hok.sel k o cs b ho) fun x hx=>?_,?_⟩
 ·cases x with
  |tmp t =>
   have:=key t (q6 _ (List.mem_filterMap.2 ⟨.tmp t,by simpa using hx,rfl⟩));show (qe ops vals order a).tmps.getD t undef=(qe ops vals (qt ops k) a).tmps.getD t undef
   rw [q8,q8,this]
  |const v=>rfl
  |global g=>rfl
  |func f=>rfl
 ·unfold Region.wanted;cases hg:o.guard with
  |none=>rfl
  |some gw =>
   obtain ⟨g,want⟩:=gw;have:yielded ops (qe ops vals order a).tmps g=yielded ops (qe ops vals (qt ops k) a).tmps g:=by
    unfold yielded;cases ht:(ops[g]?).bind (·.dst) with
    |none=>rfl
    |some t =>
     have:=key t (qx _ (by simp [hg,ht]));simp [this]
   simp only [this]
theorem kJ {m:Nat}:∀ {l:List Nat},l.Nodup->(∀ x∈l,x<m)->l.length<=m∧(l.length=m->∀ i,i<m->i∈l):=by
 induction m with
 |zero =>
  intro l _ h;cases l with
  |nil=>exact ⟨zp _,fun _ i hi=>by omega⟩
  |cons x l=>exact absurd (h x (zS ..)) (by omega)
 |succ m ih =>
  intro l hn h;by_cases hm:m∈l
  ·have h1:=ih (l:=l.erase m) (hn.erase m) fun x hx=>by
    have h2:=(hn.mem_erase_iff).1 hx;have:=h x h2.2;have:=h2.1;omega
   have hl:=List.length_erase_of_mem hm;have hpos:=List.length_pos_of_mem hm;refine ⟨by omega,fun he i hi=>?_⟩;by_cases him:i=m
   ·rw [him];exact hm
   ·exact List.mem_of_mem_erase (h1.2 (by omega) i (by omega))
  ·have h1:=ih (l:=l) hn fun x hx=>by
    have:=h x hx;have:x≠m:=fun e=>hm (e ▸ hx)
    omega
   exact ⟨by omega,fun he=>by omega⟩
theorem ZB {m:Nat}:∀ {l:List Nat},(∀ i,i<m->i∈l)->m<=l.length:=by
 induction m with
 |zero=>intro l _;exact zH _
 |succ m ih =>
  intro l h;have hm:=h m (by omega);have:=ih (l:=l.erase m) fun i hi=>(List.mem_erase_of_ne (by omega)).2 (h i (by omega))
  have hl:=List.length_erase_of_mem hm;have hpos:=List.length_pos_of_mem hm;omega
def jI (n m:Nat):Array Bool:=(Array.range n).map fun i=>decide (i<m)
theorem Xn (n m j:Nat) (h:j<n):(jI n m)[j]?=some (decide (j<m)):=by simp [jI,h]
theorem Yp (n m:Nat):(jI n m).size=n:=by simp [jI]
def xr:Value->Option Nat
 |.pointer (some a)=>some a.block
 |.slice (some a) _ _=>some a.block
 |.map r=>r
 |_=>none
def Y3 (v:Value) (w w':World):Prop:=∃ b,xr v=some b∧w.heap.size<=b∧b<w'.heap.size
theorem Ki {m:Nat} {T:List Nat} (hok:kD ops m T) {Q:Exit->Act->World->Prop} (R:Nat->Value->World->Prop) (F:Nat->Bool) (stable:∀ i v w w',Grew w w'->R i v w->R i v w') (w0:World) (a0:Act)
  (step:∀ k o,k<m->ops[k]?=some o->∀ vals w,Grew w0 w->(∀ i∈qt ops k,R i (vals i) w) ->
   if Region.wanted o (yielded ops (qe ops vals (qt ops k) a0).tmps) then jp P o (qe ops vals (qt ops k) a0) w (fun v w'=>R k v w'∧(F k=true->Y3 v w w')) else R k undef w∧F k=false)
  (fin:∀ vals w,Grew w0 w->(∀ i,i<m->R i (vals i) w)->(∀ i j,i<m->j<m->i≠j->F i=true->F j=true->xr (vals i)≠xr (vals j))->wpAny P .any ops Q (ops.size-m) (jI ops.size m) (qe ops vals (zl m) a0) w) :
  ∀ (d:Nat) (order:List Nat) (listed:Array Bool) (vals:Nat->Value) (w:World),d+order.length=m->order.Nodup->(∀ i∈order,i<m)->listed.size=ops.size ->
   (∀ j,j<ops.size->listed[j]?=some (decide (j∈order)))->Grew w0 w->(∀ i∈order,R i (vals i) w) ->
   (∀ i∈order,F i=true->∃ b,xr (vals i)=some b∧b<w.heap.size)->(∀ i∈order,∀ j∈order,i≠j->F i=true->F j=true->xr (vals i)≠xr (vals j)) ->
   (∀ k∈order,∀ o,ops[k]?=some o->∀ e∈o.after,Region.binds .any e=true->e.on∈order)->(∀ i∈T,i∈order) ->
   wpAny P .any ops Q (ops.size-order.length) listed (qe ops vals order a0) w:=by
 intro d;induction d with
 |zero =>
  intro order listed vals w hd hn hlt hsz hl hg hR hF1 hF2 hC hTo;have hlen:order.length=m:=(by omega);have hall:=(kJ hn hlt).2 hlen;have e1:listed=jI ops.size m:=by
   apply yE;intro j;by_cases hj:j<ops.size
   ·rw [hl j hj,Xn _ _ _ hj];congr 1
    have:(j∈order)↔j<m:=⟨hlt j,hall j⟩
    simp [this]
   ·rw [yq (by omega),yq (by rw [Yp];omega)]
  have e2:qe ops vals order a0=qe ops vals (zl m) a0:=by
   have ht:(qe ops vals order a0).tmps=(qe ops vals (zl m) a0).tmps:=by
    apply yE;intro t;exact Qb vals t (fun i j=>hok.uniq i j t) _ _ _ fun i _=>by rw [zo];exact ⟨hlt i,hall i⟩
   have hdf:(qe ops vals order a0).defers=(qe ops vals (zl m) a0).defers:=(by rw [xw,xw]);generalize qe ops vals order a0=x at *;generalize qe ops vals (zl m) a0=y at *;cases x;cases y;simp only at ht hdf;subst ht hdf;rfl
  rw [e1,e2,hlen];exact fin vals w hg (fun i hi=>hR i (hall i hi)) fun i j hi hj=>hF2 i (hall i hi) j (hall j hj)
 |succ d ih =>
  intro order listed vals w hd hn hlt hsz hl hg hR hF1 hF2 hC hTo;have hm:m<=ops.size:=hok.le;obtain ⟨f,hf⟩:∃ f,ops.size-order.length=f+1:=⟨ops.size-order.length-1,by omega⟩
  rw [hf];have hex:∃ i,i<m∧i ∉ order:=Classical.byContradiction fun h=>by
   have:∀ i,i<m->i∈order:=fun i hi=>Classical.byContradiction fun h'=>h ⟨i,hi,h'⟩
   have:=ZB this;omega
  have hT:∀ j,listed.getD j false=true->j∈order:=fun j hj=>by
   by_cases hj2:j<ops.size
   ·rw [q8,hl j hj2] at hj;simpa using hj
   ·rw [q8,yq (by omega)] at hj;simp at hj
  have hF:∀ j,j<ops.size->listed.getD j true=false->j ∉ order:=fun j hj2 hj=>by
   rw [q8,hl j hj2] at hj;simpa using hj
  refine ⟨fun h0=>?_,fun j hj=>?_⟩
  ·-- the x6 that is not listed may come up
   exfalso;obtain ⟨i,hi,hno⟩:=hex;have:∀ i,i<m->i ∉ order->False:=fun i=>by
    induction i using k7 with
    |_ i ihi =>
     intro hi hno;obtain ⟨o,ho⟩:∃ o,ops[i]?=some o:=⟨ops[i],by simp⟩
     have hr:i∈Region.ready .any ops listed:=mem_ready.2 ⟨by rw [q8,hl i (by omega)];simp [hno],o,ho,fun e he hb=>by
      have hlt':=hok.back i o ho e he hb;by_cases hin:e.on∈order
      ·rw [q8,hl _ (by omega)];simp [hin]
      ·exact (ihi e.on hlt' (by omega) hin).elim⟩
     rw [h0] at hr;cases hr
   exact this i hi hno
  ·obtain ⟨hun,o,ho,hall⟩:=mem_ready.1 hj;have hjn:j<ops.size:=(xk.1 ho).1;have hjo:j ∉ order:=hF j hjn hun;have hjm:j<m:=by
    rcases zD j m with h|h
    ·exact h
    ·obtain ⟨i,hi,hno⟩:=hex;exact absurd (vw hC ops.size j i o ho (fun e he hb=>hT e.on (hall e he hb)) (hok.tail j o ho h i (by omega) fun hT'=>hno (hTo i hT'))) hno
   have hdeps:∀ i∈qt ops j,i∈order:=fun i hi=>by
    obtain ⟨e,he,hb,hon⟩:=hok.deps j o ho i hi;exact hT i (by rw [← hon];exact hall e he hb)
   obtain ⟨hex1,hw1⟩:=vG hok ho vals order a0 hdeps (KT hC hjo);have hs:=step j o hjm ho vals w hg fun i hi=>hR i (hdeps i hi)
   have next:∀ v w',Grew w w'->R j v w'->(F j=true->Y3 v w w')->wpAny P .any ops Q f (listed.setIfInBounds j true) ((qe ops vals order a0).put o.dst v) w':=fun v w' hgw hRv hfr=>by
    have hne:∀ i∈order,(fun i=>if i=j then v else vals i) i=vals i:=fun i hi=>by
     have:i≠j:=fun e=>hjo (e ▸ hi)
     simp [this]
    have hp:(qe ops vals order a0).put o.dst v=qe ops (fun i=>if i=j then v else vals i) (order++[j]) a0:=by
     rw [vQ,ww order a0 hne];simp [qW,ho]
    rw [hp];have hf':f=ops.size-(order++[j]).length:=(by simp;omega);rw [hf'];refine ih (order++[j]) _ _ w' (by simp;omega) (jr.2 ⟨hn,by simp,fun x hx y hy=>by simp at hy;rintro rfl;exact hjo (hy ▸ hx)⟩)
     (fun i hi=>?_) (by simpa using hsz) (fun i hi=>?_) (hg.trans hgw) (fun i hi=>?_) (fun i hi hFi=>?_) (fun i hi k hk hik hFi hFk=>?_) (fun k hk o' ho' e he hb=>?_) (fun i hi=>by simp [hTo i hi])
    ·simp at hi;rcases hi with hi|hi
     ·exact hlt i hi
     ·omega
    ·by_cases hij:i=j
     ·subst hij;rw [ZT];simp [show i<listed.size by omega]
     ·rw [wT (Ne.symm hij),hl i hi];simp [hij]
    ·simp at hi;rcases hi with hi|hi
     ·have:i≠j:=fun e=>hjo (e ▸ hi)
      simp only [this,if_false];exact stable i _ _ _ hgw (hR i hi)
     ·subst hi;simpa using hRv
    ·simp at hi;rcases hi with hi|hi
     ·have:i≠j:=fun e=>hjo (e ▸ hi)
      simp only [this,if_false];obtain ⟨b,hb,hlt'⟩:=hF1 i hi hFi;exact ⟨b,hb,qO hlt' hgw.size⟩
     ·subst hi;obtain ⟨b,hb,_,hlt'⟩:=hfr hFi;exact ⟨b,by simpa using hb,hlt'⟩
    ·simp at hi hk;have old:∀ i,i∈order->F i=true->F j=true->xr (vals i)≠xr v:=fun i hi hFi hFj=>by
      obtain ⟨b,hb,hlt'⟩:=hF1 i hi hFi;obtain ⟨c,hc,hge,_⟩:=hfr hFj;rw [hb,hc];intro e;have:b=c:=yz.inj e;omega
     by_cases h1:i=j
     ·subst h1;have h2:¬ k=i:=fun e=>hik e.symm
      have hk':k∈order:=hk.resolve_right h2;simp only [h2,if_true,if_false];exact fun e=>old k hk' hFk hFi e.symm
     ·have hi':i∈order:=hi.resolve_right h1;by_cases h2:k=j
      ·subst h2;simp only [h1,if_true,if_false];exact old i hi' hFi hFk
      ·have hk':k∈order:=hk.resolve_right h2;simp only [h1,h2,if_false];exact hF2 i hi' k hk' hik hFi hFk
    ·simp at hk ⊢;rcases hk with hk|hk
     ·exact .inl (hC k hk o' ho' e he hb)
     ·subst hk;obtain rfl:o'=o:=yz.inj (ho'.symm.trans ho);exact .inl (hT e.on (hall e he hb))
   unfold wpOp;simp only [ho];rw [hw1];split
   ·rename_i hw;rw [if_pos hw] at hs;refine .inl ?_;unfold jp at hs;unfold Oper.wp;rw [hex1];generalize (execOp (qe ops vals (qt ops j) a0).eval o).run P w=r at hs;unfold jK at hs;unfold Oper.upon;split at hs
    ·exact next _ _ hs.1 hs.2.1 hs.2.2
    ·exact next _ _ hs.1 hs.2.1 hs.2.2
    ·exact hs.2.mono fun e w'' ⟨v,he,hg2,hv,hfr⟩=>by subst he;exact next _ _ (hs.1.trans hg2) hv hfr
    ·exact hs.elim
   ·rename_i hw;rw [if_neg hw] at hs;exact next _ _ (Below.refl _ _) hs.1 fun h=>by rw [hs.2] at h;cases h
theorem vz {id:Nat} {Q:Exit->Act->World->Prop} {a:Act} {w:World} {l:List Oper} (m:Nat) (R:Nat->Value->World->Prop) (F:Nat->Bool) (hm:P.follows .mixedOrders=true)
  (hB:(Xp l.toArray m&&Region.seqB .any l.toArray (l.length-m) m (jI l.length m))=true)
  (stable:∀ i v w w',Grew w w'->R i v w->R i v w')
  (step:∀ k o,k<m->l[k]?=some o->∀ vals w',Grew w w'->(∀ i∈qt l.toArray k,R i (vals i) w') ->
   if Region.wanted o (yielded l.toArray (qe l.toArray vals (qt l.toArray k) a).tmps) then jp P o (qe l.toArray vals (qt l.toArray k) a) w' (fun v w''=>R k v w''∧(F k=true->Y3 v w' w'')) else R k undef w'∧F k=false)
  (fin:∀ vals w',Grew w w'->(∀ i,i<m->R i (vals i) w')->(∀ i j,i<m->j<m->i≠j->F i=true->F j=true->xr (vals i)≠xr (vals j))->wpList P l.toArray Q (l.drop m) (qe l.toArray vals (zl m) a) w'):(Code.region id l.toArray true).wp P Q a w:=by
 simp only [zf] at hB;have hok:kD l.toArray m []:=vI hB.1;have hle:m<=l.length:=(by simpa using hok.le);refine wp_region_any hm ?_;have:=Ki (P:=P) (Q:=Q) hok R F stable w a (fun k o hk ho=>step k o hk (by simpa using ho)) (fun vals w' hg hR hF=>by
  have:=wpAny_of_seq (P:=P) (md:=.any) (Q':=Q) (l.drop m) m (jI l.length m) (qe l.toArray vals (zl m) a) w' (fun j=>by simp [xN]) (by simpa using hB.2) (fin vals w' hg hR hF);simpa using this) m [] (YY l.length false) (fun _=>undef) { w with drawn:=w.drawn+1 } (by simp) (by simp) (by simp) (by simp) (fun j hj=>by
   have hj':j<l.length:=(by simpa using hj);simp [hj']) (Below.drew (Below.refl _ _)) (by simp) (by simp) (by simp) (by simp) (by simp)
 simpa [qe] using this
def xC (ps:List (Nat×Tmp)) (vals:Nat->Value) (a:Act):Act:=ps.foldl (fun a p=>a.put (some p.2) (vals p.1)) a
def AllR (Rs:List (Value->World->Prop)) (vals:Nat->Value) (w:World):List (Nat×Tmp)->Prop
 |[]=>True
 |p::ps=>(Rs.getD p.1 fun _ _=>True) (vals p.1) w∧AllR Rs vals w ps
def EachR (vals:Nat->Value) (w:World):Nat->List (Value->World->Prop)->Prop
 |_,[]=>True
 |k,R::Rs=>R (vals k) w∧EachR vals w (k+1) Rs
def jQ (P:Program) (ops:Array Oper) (o:Oper) (a:Act) (w:World) (R:Value->World->Prop) (f:Bool):Prop :=
 if Region.wanted o (yielded ops a.tmps) then jp P o a w (fun v w'=>R v w'∧(f=true->Y3 v w w')) else R undef w∧f=false
def Steps (P:Program) (ops:Array Oper) (w:World) (a:Act) (Rs:List (Value->World->Prop)) (F:List Nat):Nat->List (List (Nat×Tmp))->List (Value->World->Prop)->List Oper->Prop
 |k,d::D,R::Rl,o::rest=>(∀ vals w',Grew w w'->AllR Rs vals w' d->jQ P ops o (xC d vals a) w' R (F.contains k))∧Steps P ops w a Rs F (k+1) D Rl rest
 |_,_,_,[]=>True
 |_,_,_,_=>False
def ZX:List (Value->World->Prop)->Prop
 |[]=>True
 |R::Rs=>(∀ v w w',Grew w w'->R v w->R v w')∧ZX Rs
def kO (ops:Array Oper) (ps:List (Nat×Tmp)):Bool:=ps.all fun p=>qW ops p.1==some p.2
theorem jB (vals:Nat->Value):∀ (ps:List (Nat×Tmp)) (a:Act),kO ops ps=true->xC ps vals a=qe ops vals (ps.map (·.1)) a
 |[],_,_=>rfl
 |p::ps,a,h=>by
  simp only [kO,List.all_cons,zf,beq_iff_eq] at h;have:=jB vals ps (a.put (some p.2) (vals p.1)) h.2;simp only [xC,qe,zQ,qU,h.1] at this ⊢;exact this
theorem jV (vals:Nat->Value):∀ (is:List Nat) (a:Act),qe ops vals is a=qe ops vals (is.filter fun i=>(qW ops i).isSome) a
 |[],_=>rfl
 |i::is,a=>by
  have h1:=jV vals is (a.put (qW ops i) (vals i));have h0:=jV vals is a;cases hd:qW ops i with
  |none =>
   have:qe ops vals (i::is) a=qe ops vals is a:=by simp [qe,hd,Act.put]
   rw [this,h0,List.filter_cons_of_neg (by simp [hd])]
  |some d =>
   rw [List.filter_cons_of_pos (by simp [hd])];simp only [qe,zQ] at h1 ⊢;exact h1
def WS (l:List Oper) (m:Nat) (D:List (List (Nat×Tmp))) (S:List (Nat×Tmp)):Bool :=
 Xp l.toArray m&&Region.seqB .any l.toArray (l.length-m) m (jI l.length m)&&kO l.toArray S&&decide (S.map (·.1)=(zl m).filter fun i=>(qW l.toArray i).isSome) &&
 decide (D.length=m)&&D.all (kO l.toArray)&&decide (D.map (·.map (·.1))=(zl m).map (qt l.toArray))
theorem Xc {Rs:List (Value->World->Prop)} {vals:Nat->Value} {w:World}:∀ {ps:List (Nat×Tmp)},(∀ i∈ps.map (·.1),(Rs.getD i fun _ _=>True) (vals i) w)->AllR Rs vals w ps
 |[],_=>trivial
 |p::ps,h=>⟨h p.1 (by simp),Xc fun i hi=>h i (by simp only [qU];exact qv _ hi)⟩
theorem Yn {vals:Nat->Value} {w:World}:∀ {Rs:List (Value->World->Prop)} {k:Nat},(∀ i,i<Rs.length->(Rs.getD i fun _ _=>True) (vals (k+i)) w)->EachR vals w k Rs
 |[],_,_=>trivial
 |R::Rs,k,h=>⟨by simpa using h 0 (by simp),Yn fun i hi=>by have:=h (i+1) (by simp;omega);simpa [Nat.add_assoc,Nat.add_comm 1 i] using this⟩
theorem YO {Rs:List (Value->World->Prop)}:ZX Rs->∀ (i:Nat) v w w',Grew w w'->(Rs.getD i fun _ _=>True) v w->(Rs.getD i fun _ _=>True) v w':=by
 induction Rs with
 |nil=>intro _ i v w w' _ h;simp
 |cons R Rs ih =>
  intro hs i v w w' hg h;cases i with
  |zero=>simp only [List.getD_cons_zero] at *;exact hs.1 v w w' hg h
  |succ i=>simp only [List.getD_cons_succ] at *;exact ih hs.2 i v w w' hg h
theorem Kf {w:World} {a:Act} {Rs:List (Value->World->Prop)} {F:List Nat}:∀ {n:Nat} {D:List (List (Nat×Tmp))} {Rl:List (Value->World->Prop)} {l:List Oper},Steps P ops w a Rs F n D Rl l ->
  ∀ (k:Nat) (o:Oper),l[k]?=some o->∃ d R,D[k]?=some d∧Rl[k]?=some R∧∀ vals w',Grew w w'->AllR Rs vals w' d->jQ P ops o (xC d vals a) w' R (F.contains (n+k)):=by
 intro n D Rl l;induction l generalizing n D Rl with
 |nil=>intro _ k o h;simp at h
 |cons o' l ih =>
  intro hs k o h;cases D with
  |nil=>cases Rl <;> exact hs.elim
  |cons d D =>
   cases Rl with
   |nil=>exact hs.elim
   |cons R Rl =>
    cases k with
    |zero =>
     simp at h;subst h;exact ⟨d,R,rfl,rfl,hs.1⟩
    |succ k =>
     have:=ih hs.2 k o (by simpa using h);rwa [show n+1+k=n+(k+1) by omega] at this
theorem wq {id:Nat} {Q:Exit->Act->World->Prop} {a:Act} {w:World} {l:List Oper} (m:Nat) (Rs:List (Value->World->Prop)) (F:List Nat) (D:List (List (Nat×Tmp))) (S:List (Nat×Tmp))
  (hm:P.follows .mixedOrders=true) (hB:WS l m D S=true) (hlen:Rs.length=m) (stable:ZX Rs)
  (step:Steps P l.toArray w a Rs F 0 D Rs (l.take m))
  (fin:∀ vals w',Grew w w'->EachR vals w' 0 Rs->(∀ i j,i<m->j<m->i≠j->F.contains i=true->F.contains j=true->xr (vals i)≠xr (vals j))->wpList P l.toArray Q (l.drop m) (xC S vals a) w'):(Code.region id l.toArray true).wp P Q a w:=by
 simp only [WS,zf,decide_eq_true_eq] at hB;obtain ⟨⟨⟨⟨⟨⟨h1,h2⟩,h3⟩,h4⟩,h5⟩,h6⟩,h7⟩:=hB;refine vz m (fun i=>Rs.getD i fun _ _=>True) (fun i=>F.contains i) hm (by rw [h1,h2];rfl) (fun i v w w' hg h=>YO stable i v w w' hg h) (fun k o hk ho vals w' hg hR=>?_) (fun vals w' hg hR hF=>?_)
 ·obtain ⟨d,R,hd,hR',hs⟩:=Kf step k o (by rw [wZ,if_pos hk];exact ho);have hdep:d.map (·.1)=qt l.toArray k:=by
   have:=congrArg (·[k]?) h7;simp only [zq,hd,xj] at this;rw [xP hk] at this;simpa using this
  have hslots:kO l.toArray d=true:=zZ.1 h6 d (zc hd);have:=hs vals w' hg (Xc fun i hi=>hR i (by rw [← hdep];exact hi));rw [jB vals d a hslots,hdep] at this;have hRk:(Rs.getD k fun _ _=>True)=R:=(by simp [List.getD,hR']);rw [qA] at this;simp only [hRk];exact this
 ·have:=fin vals w' hg (Yn fun i hi=>by simpa using hR i (by omega)) hF;rwa [jB vals S a h3,h4,← jV] at this
def IsV (c:Value) (v:Value) (_w:World):Prop:=v=c
theorem IsV.stable (c:Value):∀ v w w',Grew w w'->IsV c v w->IsV c v w':=fun _ _ _ _ h=>h
theorem yX (c:Value) (w:World):IsV c c w:=rfl
@[go_sem,simp] theorem grew_refl (w:World):Below w.heap.size w w=True:=by simp [Below.refl]
def IsRow (xs:Array Value) (t:TypeId) (n:Nat) (v:Value) (w:World):Prop:=∃ b,v=.slice (some ⟨b,0,none⟩) n n∧w.heap[b]?=some (.cells xs t)
theorem IsRow.stable (xs:Array Value) (t:TypeId) (n:Nat):∀ v w w',Grew w w'->IsRow xs t n v w->IsRow xs t n v w':=fun _ _ _ hg ⟨b,hv,hb⟩=>⟨b,hv,qE hg hb⟩
theorem wu (w:World) (o:Obj):Grew w (w.alloc o):=(Below.refl _ _).alloc (zp _) _
def IsBox (xs:Array Value) (t:TypeId) (v:Value) (w:World):Prop:=∃ b,v=.pointer (some ⟨b,0,none⟩)∧w.heap[b]?=some (.cells xs t)
theorem IsBox.stable (xs:Array Value) (t:TypeId):∀ v w w',Grew w w'->IsBox xs t v w->IsBox xs t v w':=fun _ _ _ hg ⟨b,hv,hb⟩=>⟨b,hv,qE hg hb⟩
theorem xA {o:Oper} {a:Act} {w:World} {R:Value->World->Prop} (hgd:Region.wanted o (yielded ops a.tmps)=true) (ty:TypeId) (x:Operand) (ho:o.op=.load ty x)
  (g:Nat) (hx:a.eval x=.pointer (some ⟨g,0,none⟩)) (t:TypeId) (cs:Array Value) (fr:Nat×Nat) (d:TypeDesc) (hg:w.heap[g]?=some (.cells cs t fr))
  (hu:P.underlying ty=some d) (hd:(match d with|.struct _|.array _ _=>true|_=>false)=true) (hi:(P.info? ty).map (·.size)=some cs.size)
  (h:R (.agg cs) w):jQ P ops o a w R false:=by
 unfold jQ;rw [if_pos hgd];unfold jp execOp;simp only [ho,hx,Instr.loadAt,Instr.sureAddr,Sem.run_bind,Sem.run_pure,Result.andThen_ok,run_loadVar_row w g t ty cs fr d hg hu hd hi];exact ⟨Below.refl _ _,h,fun h=>by cases h⟩
end
end
section
open Go.RowKit
def IsBoxN (n:Nat) (xs:Array Value) (t:TypeId) (v:Value) (w:World):Prop:=∃ b,v=.pointer (some ⟨b,0,none⟩)∧n<=b∧w.heap[b]?=some (.cells xs t)
theorem IsBoxN.stable (n:Nat) (xs:Array Value) (t:TypeId):∀ v w w',Grew w w'->IsBoxN n xs t v w->IsBoxN n xs t v w':=fun _ _ _ hg ⟨b,hv,hn,hb⟩=>⟨b,hv,hn,qE hg hb⟩
structure Gr (w:World) where
 val:World
 grew:Below w.heap.size w val
instance (w:World):Inhabited (Gr w):=⟨⟨w,Below.refl _ _⟩⟩
def qM (w:World):World->Prop:=fun w'=>∃ x:Gr w,w'=x.1
theorem quiet_gr {P:Program} {f:FuncId} {args:Array Value} {w:World} {v:Value} {x:Gr w} (h:Calls P f args x.1 fun e w'=>e=.returned v∧Below x.1.heap.size x.1 w') :
  Calls P f args x.1 fun e w''=>e=.returned v∧qM w w'' :=
 h.mono fun _ w'' ⟨he,hb⟩=>⟨he,⟨⟨w'',Grew.trans x.2 hb⟩,rfl⟩⟩
theorem X5 {P:Program} {f:FuncId} {args:Array Value} {w:World} {v:Value} {x:Gr w} (h:Calls P f args x.1 fun e w'=>e=.returned v∧w'=x.1) :
  Calls P f args x.1 fun e w''=>e=.returned v∧qM w w'' :=
 h.mono fun _ _ ⟨he,hb⟩=>⟨he,⟨x,hb⟩⟩
end
section
open Go.RowKit
section
variable {P:Program} {ops:Array Oper} {w0:World}
def X8 (P:Program) (ops:Array Oper) (w0:World) (o:Oper) (a:Act) (R:Value->World->Prop):Prop :=
 Region.wanted o (yielded ops a.tmps)=true∧∀ w',Grew w0 w'->jp P o a w' (fun v w''=>R v w''∧Y3 v w' w'')
def Qh (P:Program) (ops:Array Oper) (w0:World) (Q:Act->Prop):List (Nat×(Value->World->Prop))->List Oper->Act->Prop
 |[],l,a=>wpQuiet P ops (qM w0) Q l a
 |(n,R)::Fs,l,a=>wpQuiet P ops (qM w0) (fun a1=>match l.drop n with
   |[]=>False
   |o::rest=>X8 P ops w0 o a1 R∧Qh P ops w0 Q Fs rest (a1.put o.dst undef)) (l.take n) a
def Zk (P:Program) (ops:Array Oper) (w0:World) (Q:Act->Prop):List (Option (Value->World->Prop))->List Oper->Act->Prop
 |[],[],a=>Q a
 |none::K,o::rest,a=>if Region.wanted o (yielded ops a.tmps) then ∃ v,(∀ w',qM w0 w'->o.quietAt P a (qM w0) w' v)∧Zk P ops w0 Q K rest (a.put o.dst v) else Zk P ops w0 Q K rest (a.put o.dst undef)
 |some R::K,o::rest,a=>X8 P ops w0 o a R∧Zk P ops w0 Q K rest (a.put o.dst undef)
 |_,_,_=>False
theorem jc {Q Q':Act->Prop} {K:List (Option (Value->World->Prop))} {rest:List Oper} (h:∀ a,Q a->Zk P ops w0 Q' K rest a):∀ (l:List Oper) (a:Act),wpQuiet P ops (qM w0) Q l a->Zk P ops w0 Q' (zI l.length none++K) (l++rest) a
 |[],a,hq=>by simpa using h a hq
 |o::l,a,hq=>by
  unfold wpQuiet at hq;simp only [yZ,QQ,z7,Zk];split at hq
  ·rename_i hw;rw [if_pos hw];obtain ⟨v,h1,h2⟩:=hq;exact ⟨v,h1,jc h l _ h2⟩
  ·rename_i hw;rw [if_neg hw];exact jc h l _ hq
def yO:List (Nat×(Value->World->Prop))->Nat->List (Option (Value->World->Prop))
 |[],n=>zI n none
 |(k,R)::Fs,n=>zI k none++some R::yO Fs (n-k-1)
theorem ZS {Q:Act->Prop}:∀ (Fs:List (Nat×(Value->World->Prop))) (l:List Oper) (a:Act),Qh P ops w0 Q Fs l a->Zk P ops w0 Q (yO Fs l.length) l a
 |[],l,a,h=>by
  have:=jc (P:=P) (ops:=ops) (w0:=w0) (Q:=Q) (Q':=Q) (K:=[]) (rest:=[]) (fun a h=>h) l a h;simpa [yO] using this
 |(n,R)::Fs,l,a,h=>by
  unfold Qh at h;cases hd:l.drop n with
  |nil =>
   simp only [hd] at h;exfalso;have key:∀ (l:List Oper) (a:Act),¬ wpQuiet P ops (qM w0) (fun _=>False) l a:=fun l=>by
    induction l with
    |nil=>intro a h;exact h
    |cons o l ih =>
     intro a h;unfold wpQuiet at h;split at h
     ·obtain ⟨v,_,h2⟩:=h;exact ih _ h2
     ·exact ih _ h
   exact key _ _ h
  |cons o rest =>
   simp only [hd] at h;have hn:n<l.length:=by
    rcases zD n l.length with h'|h'
    ·exact h'
    ·rw [Zl h'] at hd;cases hd
   have hl:l=l.take n++(o::rest):=(by rw [← hd];exact (List.take_append_drop n l).symm);have hlen:(l.take n).length=n:=(by simp;omega);have hr:rest.length=l.length-n-1:=by
    have:=congrArg List.length hd;simp at this;omega
   have:=jc (P:=P) (ops:=ops) (w0:=w0) (Q':=Q) (K:=some R::yO Fs rest.length) (rest:=o::rest) (fun a h=>by
    simp only [Zk];exact ⟨h.1,ZS Fs rest _ h.2⟩) (l.take n) a h
   rw [← hl,hlen,hr] at this;exact this
theorem W5 {m:Nat} {T:List Nat} (hok:kD ops m T) (a0:Act) (Qe:Act->Prop):∀ (K:List (Option (Value->World->Prop))) (k:Nat) (l:List Oper) (c:Nat->Value),k+l.length<=m->(∀ j,j<l.length->l[j]?=ops[k+j]?) ->
  Zk P ops w0 Qe K l (qe ops c (zl k) a0) ->
  K.length=l.length∧∃ c':Nat->Value,(∀ i,i<k->c' i=c i) ∧
   (∀ i o,k<=i->i<k+l.length->ops[i]?=some o->match K[i-k]? with
    |some (some R)=>X8 P ops w0 o (qe ops c' (qt ops i) a0) R
    |_=>if Region.wanted o (yielded ops (qe ops c' (qt ops i) a0).tmps) then ∀ w,qM w0 w->o.quietAt P (qe ops c' (qt ops i) a0) (qM w0) w (c' i) else c' i=undef) ∧
   Qe (qe ops c' (zl (k+l.length)) a0)
 |[],k,[],c,_,_,h=>⟨rfl,c,fun _ _=>rfl,fun i o h1 h2 _=>by simp at h2;omega,h⟩
 |none::K,k,o::l,c,hm,hl,h=>by
  have ho:ops[k]?=some o:=(by simpa using (hl 0 (by simp)).symm);have hdl:∀ i∈qt ops k,i∈zl k:=fun i hi=>by
   obtain ⟨e,he,hb,hon⟩:=hok.deps k o ho i hi;rw [zo,← hon];exact hok.back k o ho e he hb
  obtain ⟨hex1,hw1⟩:=vG hok ho c (zl k) a0 hdl (Z0 hok k);obtain ⟨v,hv,hstep⟩:∃ v,Zk P ops w0 Qe K l ((qe ops c (zl k) a0).put o.dst v) ∧
    (if Region.wanted o (yielded ops (qe ops c (qt ops k) a0).tmps) then ∀ w,qM w0 w->o.quietAt P (qe ops c (qt ops k) a0) (qM w0) w v else v=undef):=by
   unfold Zk at h;by_cases hw:Region.wanted o (yielded ops (qe ops c (zl k) a0).tmps)=true
   ·rw [if_pos hw] at h;obtain ⟨v,h1,h2⟩:=h;refine ⟨v,h2,?_⟩;rw [← hw1,if_pos hw];intro w hC;have:=h1 w hC;unfold Oper.quietAt at this ⊢;rw [← hex1];exact this
   ·rw [if_neg hw] at h;refine ⟨undef,h,?_⟩;rw [← hw1,if_neg hw]
  have hne:∀ i,i<k->(fun i=>if i=k then v else c i) i=c i:=fun i hi=>by
   have:i≠k:=by omega
   simp [this]
  have hp:(qe ops c (zl k) a0).put o.dst v=qe ops (fun i=>if i=k then v else c i) (zl (k+1)) a0:=by
   rw [List.range_succ,vQ,ww (zl k) a0 fun i hi=>hne i (zo.1 hi)];simp [qW,ho]
  rw [hp] at hv;obtain ⟨hK,c',h1,h2,h3⟩:=W5 hok a0 Qe K (k+1) l (fun i=>if i=k then v else c i) (by simp at hm;omega) (fun j hj=>by have:=hl (j+1) (by simp;omega);simpa [Nat.add_assoc,Nat.add_comm 1 j] using this) hv;refine ⟨by simp [hK],c',fun i hi=>by rw [h1 i (by omega)];exact hne i hi,fun i o' hi1 hi2 ho'=>?_,by rw [yZ,show k+(l.length+1)=k+1+l.length by omega];exact h3⟩;rcases zD k i with hk|hk
  ·have:=h2 i o' (by omega) (by simp at hi2;omega) ho';rw [show i-k=(i-(k+1))+1 by omega,qD];exact this
  ·obtain rfl:i=k:=by omega
   obtain rfl:o'=o:=yz.inj (ho'.symm.trans ho);have hc:qe ops c' (qt ops i) a0=qe ops c (qt ops i) a0:=ww _ _ fun j hj=>by
    have:=zo.1 (hdl j hj);rw [h1 j (by omega)];exact hne j this
   have hci:c' i=v:=(by rw [h1 i (by omega)];simp);simp only [Z6,List.getElem?_cons_zero];rw [hc,hci];exact hstep
 |some R::K,k,o::l,c,hm,hl,h=>by
  have ho:ops[k]?=some o:=(by simpa using (hl 0 (by simp)).symm);have hdl:∀ i∈qt ops k,i∈zl k:=fun i hi=>by
   obtain ⟨e,he,hb,hon⟩:=hok.deps k o ho i hi;rw [zo,← hon];exact hok.back k o ho e he hb
  obtain ⟨hex1,hw1⟩:=vG hok ho c (zl k) a0 hdl (Z0 hok k);unfold Zk at h;obtain ⟨hF,h⟩:=h;have hF':X8 P ops w0 o (qe ops c (qt ops k) a0) R:=by
   unfold X8 at hF ⊢;rw [← hw1];refine ⟨hF.1,fun w' hg=>?_⟩;have:=hF.2 w' hg;unfold jp at this ⊢;rw [← hex1];exact this
  have hne:∀ i,i<k->(fun i=>if i=k then undef else c i) i=c i:=fun i hi=>by
   have:i≠k:=by omega
   simp [this]
  have hp:(qe ops c (zl k) a0).put o.dst undef=qe ops (fun i=>if i=k then undef else c i) (zl (k+1)) a0:=by
   rw [List.range_succ,vQ,ww (zl k) a0 fun i hi=>hne i (zo.1 hi)];simp [qW,ho]
  rw [hp] at h;obtain ⟨hK,c',h1,h2,h3⟩:=W5 hok a0 Qe K (k+1) l (fun i=>if i=k then undef else c i) (by simp at hm;omega) (fun j hj=>by have:=hl (j+1) (by simp;omega);simpa [Nat.add_assoc,Nat.add_comm 1 j] using this) h;refine ⟨by simp [hK],c',fun i hi=>by rw [h1 i (by omega)];exact hne i hi,fun i o' hi1 hi2 ho'=>?_,by rw [yZ,show k+(l.length+1)=k+1+l.length by omega];exact h3⟩;rcases zD k i with hk|hk
  ·have:=h2 i o' (by omega) (by simp at hi2;omega) ho';rw [show i-k=(i-(k+1))+1 by omega,qD];exact this
  ·obtain rfl:i=k:=by omega
   obtain rfl:o'=o:=yz.inj (ho'.symm.trans ho);have hc:qe ops c' (qt ops i) a0=qe ops c (qt ops i) a0:=ww _ _ fun j hj=>by
    have:=zo.1 (hdl j hj);rw [h1 j (by omega)];exact hne j this
   simp only [Z6,List.getElem?_cons_zero];rw [hc];exact hF'
 |[],_,_::_,_,_,_,h=>by simp [Zk] at h
 |none::_,_,[],_,_,_,h=>by simp [Zk] at h
 |some _::_,_,[],_,_,_,h=>by simp [Zk] at h
def yo:Nat->List (Nat×(Value->World->Prop))->List Nat
 |_,[]=>[]
 |k,(n,_)::Fs=>(k+n)::yo (k+n+1) Fs
def nsF (Fs:List (Nat×(Value->World->Prop))):List Nat:=Fs.map (·.1)
def y9:Nat->List Nat->List Nat
 |_,[]=>[]
 |k,n::ns=>(k+n)::y9 (k+n+1) ns
theorem kx:∀ (Fs:List (Nat×(Value->World->Prop))) (k:Nat),yo k Fs=y9 k (nsF Fs)
 |[],_=>rfl
 |(n,R)::Fs,k=>by simp [yo,y9,nsF];exact kx Fs _
def QS:List (Nat×(Value->World->Prop))->Prop
 |[]=>True
 |p::Fs=>(∀ v w w',Grew w w'->p.2 v w->p.2 v w')∧QS Fs
def Y2 (vals:Nat->Value) (w:World):Nat->List (Nat×(Value->World->Prop))->Prop
 |_,[]=>True
 |k,(n,R)::Fs=>R (vals (k+n)) w∧Y2 vals w (k+n+1) Fs
theorem Zc:∀ (Fs:List (Nat×(Value->World->Prop))) (n i:Nat) (R:Value->World->Prop),(yO Fs n)[i]?=some (some R)->∀ k,k+i∈yo k Fs
 |[],n,i,R,h,k=>by
  simp [yO,yT] at h
 |(j,R')::Fs,n,i,R,h,k=>by
  simp only [yO] at h;rcases yG i j with hi|hi|hi
  ·rw [zv (by simpa using hi)] at h;simp [yT] at h
  ·subst hi;simp [yo]
  ·rw [qu (by simp;omega)] at h;simp only [jE] at h;rw [show i-j=(i-j-1)+1 by omega,qD] at h;have:=Zc Fs _ _ R h (k+j+1);simp only [yo,zG];right
   rw [show k+i=k+j+1+(i-j-1) by omega];exact this
theorem Qz:∀ (Fs:List (Nat×(Value->World->Prop))) (n i k:Nat),k+i∈yo k Fs->∃ R,(yO Fs n)[i]?=some (some R)
 |[],_,_,_,h=>by simp [yo] at h
 |(j,R')::Fs,n,i,k,h=>by
  simp only [yo,zG] at h;rcases h with h|h
  ·obtain rfl:i=j:=by omega
   exact ⟨R',by simp [yO]⟩
  ·have hge:∀ (Fs:List (Nat×(Value->World->Prop))) (k x:Nat),x∈yo k Fs->k<=x:=by
    intro Fs;induction Fs with
    |nil=>intro k x h;simp [yo] at h
    |cons p Fs ih=>intro k x h;obtain ⟨n,R⟩:=p;simp only [yo,zG] at h;rcases h with rfl|h;omega;have:=ih _ _ h;omega
   have hk:=hge _ _ _ h;rw [show k+i=k+j+1+(i-j-1) by omega] at h;obtain ⟨R,hR⟩:=Qz Fs (n-j-1) (i-j-1) (k+j+1) h;refine ⟨R,?_⟩;simp only [yO];rw [qu (by simp;omega)];simp only [jE];rw [show i-j=(i-j-1)+1 by omega,qD];exact hR
theorem QG:∀ {Fs:List (Nat×(Value->World->Prop))},QS Fs->∀ (n i:Nat) (R:Value->World->Prop),(yO Fs n)[i]?=some (some R)->∀ v w w',Grew w w'->R v w->R v w'
 |[],_,n,i,R,h=>by simp [yO,yT] at h
 |(j,R')::Fs,hs,n,i,R,h=>by
  simp only [yO] at h;rcases yG i j with hi|hi|hi
  ·rw [zv (by simpa using hi)] at h;simp [yT] at h
  ·subst hi;rw [qu (by simp)] at h;simp at h;subst h;exact hs.1
  ·rw [qu (by simp;omega)] at h;simp only [jE] at h;rw [show i-j=(i-j-1)+1 by omega,qD] at h;exact QG hs.2 _ _ R h
theorem WC {vals:Nat->Value} {w:World}:∀ (Fs:List (Nat×(Value->World->Prop))) (n k:Nat),(∀ (i:Nat) (R:Value->World->Prop),(yO Fs n)[i]?=some (some R)->R (vals (k+i)) w)->Y2 vals w k Fs
 |[],_,_,_=>trivial
 |(j,R)::Fs,n,k,h=>by
  refine ⟨h j R (by simp [yO]),WC Fs (n-j-1) (k+j+1) fun i R' hi=>?_⟩;have:=h (j+1+i) R' (by
   simp only [yO];rw [qu (by simp;omega)];simp only [jE];rw [show j+1+i-j=i+1 by omega,qD];exact hi)
  rwa [show k+(j+1+i)=k+j+1+i by omega] at this
def qaB (l:List Oper) (m:Nat) (ns:List Nat) (S:List (Nat×Tmp)) (T:List Nat:=[]):Bool :=
 Xp l.toArray m T&&Region.seqB .any l.toArray (l.length-m) m (jI l.length m)&&kO l.toArray S&&decide (S.map (·.1)=y9 0 ns) &&
 ((zl m).all fun k=>(qt l.toArray k).all fun i=>!(y9 0 ns).contains i)&&((y9 0 ns).all fun i=>decide (i<m))
theorem K1 {Fs:List (Nat×(Value->World->Prop))} {m:Nat} (h:(y9 0 (nsF Fs)).all (fun i=>decide (i<m))=true):∀ i∈yo 0 Fs,i<m:=fun i hi=>by
 rw [kx] at hi;simpa using zZ.1 h i hi
theorem QD {vals vals':Nat->Value}:∀ (is:List Nat) (a:Act),(∀ i∈is,∀ t,qW ops i=some t->t<a.tmps.size->vals i=vals' i)->qe ops vals is a=qe ops vals' is a
 |[],_,_=>rfl
 |i::is,a,h=>by
  have e:a.put (qW ops i) (vals i)=a.put (qW ops i) (vals' i):=by
   cases hd:qW ops i with
   |none=>rfl
   |some t =>
    by_cases ht:t<a.tmps.size
    ·rw [h i (by simp) t hd ht]
    ·simp only [Act.put];congr 1
     rw [Qi (Nat.le_of_not_lt ht),Qi (Nat.le_of_not_lt ht)]
  show qe ops vals is (a.put (qW ops i) (vals i))=qe ops vals' is (a.put (qW ops i) (vals' i))
  rw [e];exact QD is _ fun j hj t ht hs=>h j (by simp [hj]) t ht (by rwa [YF] at hs)
def rM (x:Option (Option (Value->World->Prop))) (d:Prop) (v:Value) (w:World):Prop:=match x with|some (some R)=>R v w|_=>d
theorem W6 {x:Option (Option (Value->World->Prop))} {R:Value->World->Prop} (h:x=some (some R)) (d:Prop) (v:Value) (w:World):rM x d v w=R v w:=by subst h;rfl
theorem Y0 {x:Option (Option (Value->World->Prop))} (h:∀ R,x≠some (some R)) (d:Prop) (v:Value) (w:World):rM x d v w=d:=by
 rcases x with _|_|R
 ·rfl
 ·rfl
 ·exact absurd rfl (h R)
theorem QZ (x:Option (Option (Value->World->Prop))):(∃ R,x=some (some R))∨∀ R,x≠some (some R):=by
 rcases x with _|_|R
 ·exact .inr fun R h=>by cases h
 ·exact .inr fun R h=>by cases h
 ·exact .inl ⟨R,rfl⟩
theorem Wj {id:Nat} {Q:Exit->Act->World->Prop} {a:Act} {w:World} {l:List Oper} (m:Nat) (Fs:List (Nat×(Value->World->Prop))) (S:List (Nat×Tmp)) (hm:P.follows .mixedOrders=true)
    (hB:qaB l m (nsF Fs) S=true) (stable:QS Fs) (A:Act) (hA:∀ w1,Grew w w1->Qh P l.toArray w1 (fun a'=>a'=A) Fs (l.take m) a)
    (fin:∀ vals w',Grew w w'->Y2 vals w' 0 Fs->(∀ i∈S.map (·.1),∀ j∈S.map (·.1),i≠j->xr (vals i)≠xr (vals j))->wpList P l.toArray Q (l.drop m) (xC S vals A) w'):(Code.region id l.toArray true).wp P Q a w:=by
  simp only [qaB,zf,decide_eq_true_eq] at hB;obtain ⟨⟨⟨⟨⟨h1,h2⟩,h3⟩,h4⟩,h5⟩,h6⟩:=hB;have hok:kD l.toArray m []:=vI h1;have hle:m<=l.length:=(by simpa using hok.le);have hlt:=K1 h6;have hlen:(l.take m).length=m:=(by simp;omega);have h0:qe l.toArray (fun _=>undef) (zl 0) a=a:=rfl
  have hex : ∀ w1, Grew w w1 -> (yO Fs m).length = m ∧ ∃ c : Nat -> Value, (∀ i o, i < m -> l[i]? = some o -> match (yO Fs m)[i]? with
        | some (some R)=>X8 P l.toArray w1 o (qe l.toArray c (qt l.toArray i) a) R
        | _=>if Region.wanted o (yielded l.toArray (qe l.toArray c (qt l.toArray i) a).tmps) then ∀ w,qM w1 w->o.quietAt P (qe l.toArray c (qt l.toArray i) a) (qM w1) w (c i) else c i=undef) ∧
      qe l.toArray c (zl m) a=A:=fun w1 hg=>by
    have hqa:=ZS Fs (l.take m) a (hA w1 hg);rw [hlen] at hqa;obtain ⟨hK,c,_,hstep,hend⟩:=W5 hok a _ (yO Fs m) 0 (l.take m) (fun _=>undef) (by simp [hle]) (fun j hj=>by rw [hlen] at hj;simp [hj]) (by rw [h0];exact hqa);rw [hlen] at hstep hend hK;rw [qA] at hend;exact ⟨hK,c,fun i o hi ho=>by have:=hstep i o (zH _) (by omega) (by simpa using ho);rwa [Nat.sub_zero] at this,hend⟩
  have hsame:∀ c:Nat->Value,qe l.toArray c (zl m) a=A->∀ i t,i<m->qW l.toArray i=some t->t<a.tmps.size->c i=A.tmps.getD t undef:=fun c hc i t hi hd ht=>by
    have:=jU c t i hd (zl m) a (zo.2 hi) (fun j _ hj=>hok.uniq j i t hj hd);rw [hc,if_pos ht] at this;simp [this]
  have hnd:∀ k,k<m->∀ i∈qt l.toArray k,i ∉ yo 0 Fs:=fun k hk i hi=>by
    have:=zZ.1 (zZ.1 h5 k (zo.2 hk)) i hi;rw [kx];simpa using this
  have hdm:∀ k o,k<m->l[k]?=some o->∀ i∈qt l.toArray k,i<m:=fun k o hk ho i hi=>by
    obtain ⟨e,he,hb,hon⟩:=hok.deps k o (by simpa using ho) i hi;have:=hok.back k o (by simpa using ho) e he hb;omega
  obtain ⟨hK,_⟩:=hex w (Below.refl _ _);refine vz m (fun i v w=>rM (yO Fs m)[i]? (∀ t,qW l.toArray i=some t->t<a.tmps.size->v=A.tmps.getD t undef) v w) (fun i=>(yo 0 Fs).contains i) hm (by rw [h1,h2];rfl) (fun i v w w' hg h=>?_) (fun k o hk ho vals w' hg hR=>?_) (fun vals w' hg hR hF=>?_)
  · rcases QZ (yO Fs m)[i]? with ⟨R,hR⟩|hno
    · rw [W6 hR] at h ⊢;exact QG stable m i R hR v w w' hg h
    · rw [Y0 hno] at h ⊢;exact h
  · obtain ⟨_,c,hstep,hend⟩:=hex w' hg;have hdeps:qe l.toArray vals (qt l.toArray k) a=qe l.toArray c (qt l.toArray k) a:=QD _ _ fun i hi t ht hs=>by
      have hi':=hR i hi;have hno:=hnd k hk i hi;rcases QZ (yO Fs m)[i]? with ⟨R,hRR⟩|hno'
      · have:=Zc Fs m i R hRR 0;rw [qA] at this;exact absurd this hno
      · rw [Y0 hno'] at hi';rw [hi' t ht hs,hsame c hend i t (hdm k o hk ho i hi) ht hs]
    rw [hdeps];have hs:=hstep k o hk ho;rcases QZ (yO Fs m)[k]? with ⟨R,hRR⟩|hno
    · simp only [hRR] at hs;simp only [W6 hRR];rw [if_pos hs.1];have hg':=hs.2 w' (Below.refl _ _);unfold jp at hg' ⊢;generalize (execOp (qe l.toArray c (qt l.toArray k) a).eval o).run P w'=r at hg' ⊢;cases r with
      | ok n w'' =>
        cases n <;> simp only [jK] at hg' ⊢
        case value v=>exact ⟨hg'.1,hg'.2.1,fun _=>hg'.2.2⟩
        case skip=>exact ⟨hg'.1,hg'.2.1,fun _=>hg'.2.2⟩
        case enter f args=>exact ⟨hg'.1,hg'.2.mono fun e w3 ⟨v,he,hb,hr,hf⟩=>⟨v,he,hb,hr,fun _=>hf⟩⟩
      | halt x w''=>simp only [jK] at hg'
    · have hnF:(yo 0 Fs).contains k=false:=by
        cases hc:(yo 0 Fs).contains k with
        | false=>rfl
        | true =>
          have hmem:k∈yo 0 Fs:=(by simpa using hc);obtain ⟨R,hRR⟩:=Qz Fs m k 0 (by rw [qA];exact hmem);exact absurd hRR (hno R)
      have hck:∀ t,qW l.toArray k=some t->t<a.tmps.size->c k=A.tmps.getD t undef:=fun t ht hs=>hsame c hend k t hk ht hs
      have hs:if Region.wanted o (yielded l.toArray (qe l.toArray c (qt l.toArray k) a).tmps) then ∀ w,qM w' w->o.quietAt P (qe l.toArray c (qt l.toArray k) a) (qM w') w (c k) else c k=undef:=by
        split at hs
        · rename_i R hRR;exact absurd hRR (hno R)
        · exact hs
      simp only [Y0 hno,hnF];split at hs
      · rename_i hw;rw [if_pos hw];have hq:=hs w' ⟨⟨w',Below.refl _ _⟩,rfl⟩;unfold Oper.quietAt at hq;unfold jp;generalize (execOp (qe l.toArray c (qt l.toArray k) a).eval o).run P w'=r at hq ⊢;cases r with
        | ok n w'' =>
          cases n <;> simp only [Oper.quietUpon] at hq <;> simp only [jK]
          case value v=>obtain ⟨e1,e2⟩:=hq;rw [e1,e2];exact ⟨Below.refl _ _,hck,fun h=>by cases h⟩
          case skip=>obtain ⟨e1,e2⟩:=hq;rw [e1];exact ⟨Below.refl _ _,fun t ht hsz=>e2.symm.trans (hck t ht hsz),fun h=>by cases h⟩
          case enter f args =>
            obtain ⟨e1,hc⟩:=hq;rw [e1];exact ⟨Below.refl _ _,hc.mono fun e w3 ⟨he,x,hx⟩=>⟨_,he,by rw [hx];exact x.2,hck,fun h=>by cases h⟩⟩
        | halt x w''=>simp only [Oper.quietUpon] at hq
      · rename_i hw;rw [if_neg hw];exact ⟨fun t ht hsz=>hs.symm.trans (hck t ht hsz),trivial⟩
  · obtain ⟨_,c,hstep,hend⟩:=hex w' hg;have hEF:Y2 vals w' 0 Fs:=WC Fs m 0 fun i R hRR=>by
      have hi:=hR i (by
        have:=(zy.1 hRR).1;rw [hK] at this;exact this)
      rw [W6 hRR] at hi;rw [qA];exact hi
    have hdist:∀ i∈S.map (·.1),∀ j∈S.map (·.1),i≠j->xr (vals i)≠xr (vals j):=fun i hi j hj hne=>by
      rw [h4,← kx] at hi hj;exact hF i j (hlt i hi) (hlt j hj) hne (by simpa using hi) (by simpa using hj)
    have hfin:=fin vals w' hg hEF hdist;rw [jB vals S _ h3,h4,← kx,← hend] at hfin;have hs:qe l.toArray vals (yo 0 Fs) (qe l.toArray c (zl m) a)=qe l.toArray vals (zl m) a:=by
      have ht:(qe l.toArray vals (yo 0 Fs) (qe l.toArray c (zl m) a)).tmps=(qe l.toArray vals (zl m) a).tmps:=by
        apply yE;intro t;by_cases hex:∃ i,i<m∧qW l.toArray i=some t
        · obtain ⟨i,hi,hdi⟩:=hex;have hu:∀ is:List Nat,∀ j∈is,qW l.toArray j=some t->j=i:=fun _ j _ hj=>hok.uniq j i t hj hdi
          by_cases hiF:i∈yo 0 Fs
          · rw [jU vals t i hdi _ _ hiF (hu _),jU vals t i hdi _ _ (zo.2 hi) (hu _),XE]
          · rw [xW vals t _ _ (fun j hj hdj=>hiF (by rw [← hok.uniq j i t hdj hdi];exact hj)),jU c t i hdi _ _ (zo.2 hi) (hu _),jU vals t i hdi _ _ (zo.2 hi) (hu _)];have hi':=hR i hi;rcases QZ (yO Fs m)[i]? with ⟨R,hRR⟩|hno'
            · have:=Zc Fs m i R hRR 0;rw [qA] at this;exact absurd this hiF
            · rw [Y0 hno'] at hi';by_cases hsz:t<a.tmps.size
              · rw [if_pos hsz,if_pos hsz,hi' t hdi hsz,hsame c hend i t hi hdi hsz]
              · rw [if_neg hsz,if_neg hsz]
        · have hno:∀ is:List Nat,(∀ i∈is,i<m)->∀ i∈is,qW l.toArray i≠some t:=fun is hlt i hi he=>hex ⟨i,hlt i hi,he⟩
          rw [xW vals t _ _ (hno _ hlt),xW c t _ _ (hno _ fun i hi=>zo.1 hi),xW vals t _ _ (hno _ fun i hi=>zo.1 hi)]
      have hdf:(qe l.toArray vals (yo 0 Fs) (qe l.toArray c (zl m) a)).defers=(qe l.toArray vals (zl m) a).defers:=(by rw [xw,xw,xw]);generalize qe l.toArray vals (yo 0 Fs) (qe l.toArray c (zl m) a)=x at *;generalize qe l.toArray vals (zl m) a=y at *;cases x;cases y;simp only at ht hdf;subst ht hdf;rfl
    rw [hs] at hfin;exact hfin
end
end
section
open Go.RowKit
theorem fold_set (l:List Value):∀ (k:Nat) (acc:Array Value),acc.size=k+l.length->(l.zipIdx k).foldl (fun cs x=>cs.setIfInBounds x.2 x.1) acc=(acc.toList.take k++l).toArray:=by
 induction l with
 |nil =>
  intro k acc h;simp only [List.zipIdx_nil,zY,xH];rw [zM (by simp at h ⊢;omega)]
 |cons v r ih =>
  intro k acc h;simp only [List.zipIdx_cons,zQ];rw [ih (k+1) _ (by simp at h ⊢;omega)];congr 1
  have hk:k<acc.toList.length:=(by simp at h ⊢;omega);rw [Array.toList_setIfInBounds,List.take_set,jh hk,List.set_append_right _ _ (by simp;omega)];simp [wi (Nat.le_of_lt (by simpa using hk))]
section
variable {P:Program}
theorem Z3 (w:World) (t e:TypeId) (cs:Array Value) (hu:P.underlying t=some (.slice e)) (hi:(P.info? e).map (·.size)=some cs.size) (hz:((P.info? e).bind (·.zero)).isSome=true) (hpos:0<cs.size) (hsmall:cs.size<=16777216) :
  (Instr.buildSlice t 1 #[(0,.agg cs)]).run P w=.ok (.slice (some ⟨w.heap.size,0,none⟩) 1 1) (w.alloc (.cells cs e)):=by
 cases hie:P.info? e with
 |none=>simp [hie] at hi
 |some ie =>
  simp only [hie,xj,yz.injEq,Option.bind_some] at hi hz;obtain ⟨z,hzz⟩:=Option.isSome_iff_exists.1 hz;refine run_buildSlice w t e 1 _ cs ie z hu hie hzz (by omega) (by omega) ?_;have hc:(Value.agg cs).cells=cs:=rfl;simp only [Instr.fill,Nat.zero_mul,Nat.one_mul,hc,hi];have hsz:((Array.range cs.size).map (z.cells[·%z.cells.size]!)).size=cs.size:=(by simp);generalize (Array.range cs.size).map (z.cells[·%z.cells.size]!)=A at hsz ⊢;rw [if_neg (by simp [hsz])];congr 1
  have h:=fold_set cs.toList 0 A (by simp [hsz]);simp only [jG,z8,Array.toArray_toList] at h;refine Eq.trans ?_ h;rw [← Array.foldl_toList];simp
theorem kA {ops:Array Oper} {rest:List Oper} {o:Oper} {a:Act} {w:World} {Q:Exit->Act->World->Prop} (hg:o.guard=none) (t e:TypeId) (x:Operand) (ho:o.op=.buildSlice t 1 #[(0,x)]) (cs:Array Value) (hx:a.eval x=.agg cs)
  (hu:P.underlying t=some (.slice e)) (hi:(P.info? e).map (·.size)=some cs.size) (hz:((P.info? e).bind (·.zero)).isSome=true) (hpos:0<cs.size) (hsmall:cs.size<=16777216)
  (h:wpList P ops Q rest (a.put o.dst (.slice (some ⟨w.heap.size,0,none⟩) 1 1)) (w.alloc (.cells cs e))):wpList P ops Q (o::rest) a w :=
 wpList_plain hg fun _ hK=>by
  unfold Oper.wp execOp;simp only [ho,jt,qU,k6,hx,Sem.run_bind,Z3 w t e cs hu hi hz hpos hsmall,Result.andThen_ok,Sem.run_pure];exact hK _ _ h
theorem kU (w:World) (g o:Nat) (t ty:TypeId) (cur:Array Value) (v:Value) (hg:w.heap[g]?=some (.cells cur t (0,0))) (hi:(P.info? ty).map (·.size)=some v.cells.size)
  (hl:o+v.cells.size<=cur.size) (h1:∀ u∈v.cells.toList,u.oneCell'=true) :
  (storeVar ty ⟨g,o,none⟩ v).run P w=.ok () (w.setRow g (cur.toList.take o++v.cells.toList++cur.toList.drop (o+v.cells.size)).toArray):=by
 have:=run_storeCells_at (P:=P) g o t v.cells.toList 0 cur w hg (by simpa using hl) h1;cases hq:P.info? ty with
 |none=>simp [hq] at hi
 |some i =>
  have hs:v.cells.size=i.size:=(by simp [hq] at hi;omega);simp [storeVar,sizeOf,typeInfo,hq,hs] at this ⊢;rw [this]
end
theorem wn {P:Program} {fn:Func} {p u:Tmp} {ty:TypeId} (h:fn.results=#[.cell p ty,.tmp u]) (tmps:Array Value) (w:World) (g:Nat) (t:TypeId) (cs:Array Value) (fr:Nat×Nat) (d:TypeDesc) (x:Value)
  (hp:tmps.getD p undef=.pointer (some ⟨g,0,none⟩)) (hx:tmps.getD u undef=x) (hg:w.heap[g]?=some (.cells cs t fr))
  (hu:P.underlying ty=some d) (hd:(match d with|.struct _|.array _ _=>true|_=>false)=true) (hi:(P.info? ty).map (·.size)=some cs.size) :
  (results fn tmps).run P w=.ok (.tuple #[.agg cs,x]) w:=by
 rw [results_cell_tmp h,hp,hx];simp [asAddr,run_loadVar_row w g t ty cs fr d hg hu hd hi,Result.andThen]
def zX {α:Type} (enc:α->List Value) (L:List α):List Value:=L.flatMap enc
theorem Yq {α:Type} (enc:α->List Value) (L:List α) (x:α):zX enc (L++[x])=zX enc L++enc x:=by simp [zX]
theorem wV {α:Type} (enc:α->List Value) (k:Nat) (hk:∀ x,(enc x).length=k):∀ (L:List α) (i:Nat) (x:α),L[i]?=some x->∀ j,j<k->(zX enc L)[i*k+j]?=(enc x)[j]?
 |[],i,x,h,_,_=>by simp at h
 |y::L,0,x,h,j,hj=>by
  simp at h;subst h;simp only [zX,kR,Nat.zero_mul,qA];rw [zv (by rw [hk];exact hj)]
 |y::L,i+1,x,h,j,hj=>by
  have ih:=wV enc k hk L i x (by simpa using h) j hj;simp only [zX,kR] at ih ⊢;rw [qu (by rw [hk,kC];omega),hk];rw [show (i+1)*k+j-k=i*k+j by rw [kC];omega];exact ih
theorem qz {α:Type} (enc:α->List Value) (k:Nat) (hk:∀ x,(enc x).length=k) (L:List α):(zX enc L).length=L.length*k:=by
 induction L with
 |nil=>simp [zX]
 |cons y L ih =>
  simp only [zX,kR,zN,hk,yZ] at ih ⊢;rw [ih,kC];omega
end
end Go.Proofs.YtminpdngkjlehaaDoor
section
namespace Go.Proofs.YtminpdngkjlehaaDoor
set_option linter.unusedSimpArgs false
set_option linter.unusedVariables false
open Go.RowKit
theorem puA {α:Type} (l:List α) (i:Nat) (a:α):l.toArray.setIfInBounds i a=(l.set i a).toArray:=zd l i a
theorem puB {α:Type} (a b:α) (l:List α):(a::l).set 0 b=b::l:=rfl
theorem puC {α:Type} (a b:α) (l:List α) (n:Nat):(a::l).set (n+1) b=a::l.set n b:=rfl
structure As where
 fp:List Nat
 ho:World->Prop
 loc:∀ w w':World,(∀ b∈fp,w'.heap[b]?=w.heap[b]?)->ho w->ho w'
 lt:∀ w,ho w->∀ b∈fp,b<w.heap.size
def blk (b:Nat) (o:Obj):As:=⟨[b],fun w=>w.heap[b]?=some o,fun w w' h hw=>by rw [h b (by simp)];exact hw,fun w hw c hc=>by simp at hc;subst hc;exact lt_of_block hw⟩
theorem qi (b:Nat) (o:Obj):(blk b o).fp=[b]:=rfl
theorem yB (b:Nat) (o:Obj) (w:World):(blk b o).ho w=(w.heap[b]?=some o):=rfl
def As.sep (A B:As):As:=⟨A.fp++B.fp,fun w=>A.ho w∧B.ho w∧∀ b∈A.fp,b ∉ B.fp,
 fun w w' h hw=>⟨A.loc w w' (fun b hb=>h b (by simp [hb])) hw.1,B.loc w w' (fun b hb=>h b (by simp [hb])) hw.2.1,hw.2.2⟩,
 fun w hw b hb=>by rcases zt.1 hb with hb|hb;exact A.lt w hw.1 b hb;exact B.lt w hw.2.1 b hb⟩
structure St (w0:World) (M:List Nat) (L:List As) (w:World):Prop where
 os:w.os=w0.os
 tape:w.tape=w0.tape
 output:w.output=w0.output
 size:w0.heap.size<=w.heap.size
 keep:∀ b,b<w0.heap.size->b ∉ M->w.heap[b]?=w0.heap[b]?
 ho:∀ A∈L,A.ho w
 own:∀ A∈L,∀ b∈A.fp,w0.heap.size<=b∨b∈M
 dis:L.Pairwise fun A B=>∀ b∈A.fp,b ∉ B.fp
inductive Pick:List As->As->List As->Prop
 |here {A:As} {R:List As}:Pick (A::R) A R
 |there {A B:As} {L R:List As}:Pick L A R->Pick (B::L) A (B::R)
inductive Upd:List As->As->As->List As->Prop
 |here {A A':As} {R:List As}:Upd (A::R) A A' (A'::R)
 |there {A A' B:As} {L L':List As}:Upd L A A' L'->Upd (B::L) A A' (B::L')
theorem pk {P:Prop} (h:P:=by (repeat constructor);fail_if_success exfalso):P:=h
theorem Pick.mem {L R:List As} {A:As} (h:Pick L A R):A∈L:=by
 induction h with
 |here=>simp
 |there _ ih=>simp [ih]
theorem Pick.perm {L R:List As} {A:As} (h:Pick L A R):L.Perm (A::R):=by
 induction h with
 |here=>exact yd.refl _
 |there _ ih=>exact (ih.cons _).trans (yd.swap _ _ _)
theorem Upd.pick {L L':List As} {A A':As} (h:Upd L A A' L'):∃ R,L.Perm (A::R)∧L'.Perm (A'::R):=by
 induction h with
 |here=>exact ⟨_,yd.refl _,yd.refl _⟩
 |there _ ih =>
  obtain ⟨R,h1,h2⟩:=ih;exact ⟨_::R,(h1.cons _).trans (yd.swap _ _ _),(h2.cons _).trans (yd.swap _ _ _)⟩
namespace St
variable {w0 w w':World} {M:List Nat} {L L' R:List As} {A A':As}
theorem below (h:St w [] L w'):Below w.heap.size w w':=⟨h.os,h.tape,h.output,h.size,fun k hk=>h.keep k hk (by simp)⟩
theorem of_below (h:Below w.heap.size w w'):St w [] [] w':=⟨h.os,h.tape,h.output,h.size,fun b hb _=>h.block b hb,by simp,by simp,List.Pairwise.nil⟩
theorem nil (w:World) (M:List Nat):St w M [] w:=⟨rfl,rfl,rfl,zp _,fun _ _ _=>rfl,by simp,by simp,List.Pairwise.nil⟩
theorem one {A:As} (h:A.ho w):St w A.fp [A] w:=⟨rfl,rfl,rfl,zp _,fun _ _ _=>rfl,by simpa using h,fun B hB b hb=>by simp at hB;subst hB;exact .inr hb,by simp⟩
theorem perm (h:St w0 M L w) (hp:L.Perm L'):St w0 M L' w :=
 ⟨h.os,h.tape,h.output,h.size,h.keep,fun A hA=>h.ho A (hp.mem_iff.2 hA),fun A hA=>h.own A (hp.mem_iff.2 hA),(hp.pairwise_iff fun hd b hb hA=>hd b hA hb).1 h.dis⟩
theorem pick (h:St w0 M L w) (hp:Pick L A R):St w0 M (A::R) w:=h.perm hp.perm
theorem pick2 {B:As} {R':List As} (h:St w0 M L w) (h1:Pick L A R) (h2:Pick R B R'):St w0 M (A::B::R') w:=h.perm (h1.perm.trans (h2.perm.cons _))
theorem get (h:St w0 M L w) (hp:Pick L A R):A.ho w:=h.ho A hp.mem
theorem tail (h:St w0 M (A::L) w):St w0 M L w:=⟨h.os,h.tape,h.output,h.size,h.keep,fun B hB=>h.ho B (by simp [hB]),fun B hB=>h.own B (by simp [hB]),(zK.1 h.dis).2⟩
theorem drop (h:St w0 M L w) (hp:Pick L A R):St w0 M R w:=(h.pick hp).tail
theorem nix (h:St w0 M L w):St w0 M [] w:=⟨h.os,h.tape,h.output,h.size,h.keep,by simp,by simp,List.Pairwise.nil⟩
theorem onlyHead (h:St w0 M (A::L) w):St w0 M [A] w:=⟨h.os,h.tape,h.output,h.size,h.keep,fun B hB=>h.ho B (by simp at hB;simp [hB]),fun B hB=>h.own B (by simp at hB;simp [hB]),by simp⟩
theorem only (h:St w0 M L w) (hp:Pick L A R):St w0 M [A] w:=(h.pick hp).onlyHead
theorem old (h:St w0 M L w) {A:As} (hA:A.ho w0) (hd:∀ b∈A.fp,b ∉ M):A.ho w:=A.loc w0 w (fun b hb=>h.keep b (A.lt w0 hA b hb) (hd b hb)) hA
theorem fpLt (h:St w0 M L w) (hA:A∈L):∀ b∈A.fp,b<w.heap.size:=A.lt w (h.ho A hA)
theorem call (h:St w0 M (A::R) w) (hc:St w A.fp L' w'):St w0 M (L'++R) w':=by
 have hA:=h.fpLt (A:=A) (by simp);obtain ⟨hd1,hd2⟩:=zK.1 h.dis;have hR:∀ B∈R,∀ b∈B.fp,w'.heap[b]?=w.heap[b]?:=fun B hB b hb=>hc.keep b (h.fpLt (by simp [hB]) b hb) fun hm=>hd1 B hB b hm hb
 refine ⟨hc.os.trans h.os,hc.tape.trans h.tape,hc.output.trans h.output,qs h.size hc.size,fun b hb hM=>?_,fun B hB=>?_,fun B hB b hb=>?_,?_⟩
 ·rw [hc.keep b (qO hb h.size) fun hm=>?_]
  ·exact h.keep b hb hM
  ·rcases h.own A (by simp) b hm with h'|h'
   ·omega
   ·exact hM h'
 ·rcases zt.1 hB with hB|hB
  ·exact hc.ho B hB
  ·exact B.loc w w' (hR B hB) (h.ho B (by simp [hB]))
 ·rcases zt.1 hB with hB|hB
  ·rcases hc.own B hB b hb with h'|h'
   ·exact .inl (qs h.size h')
   ·exact h.own A (by simp) b h'
  ·exact h.own B (by simp [hB]) b hb
 ·refine List.pairwise_append.2 ⟨hc.dis,hd2,fun B hB C hC b hb hbC=>?_⟩;rcases hc.own B hB b hb with h'|h'
  ·have:=h.fpLt (A:=C) (by simp [hC]) b hbC;omega
  ·exact hd1 C hC b h' hbC
theorem call0 (h:St w0 M R w) (hc:St w [] L' w'):St w0 M (L'++R) w':=by
 refine ⟨hc.os.trans h.os,hc.tape.trans h.tape,hc.output.trans h.output,qs h.size hc.size,fun b hb hM=>?_,fun B hB=>?_,fun B hB b hb=>?_,?_⟩
 ·rw [hc.keep b (qO hb h.size) (by simp)];exact h.keep b hb hM
 ·rcases zt.1 hB with hB|hB
  ·exact hc.ho B hB
  ·exact B.loc w w' (fun b hb=>hc.keep b (h.fpLt hB b hb) (by simp)) (h.ho B hB)
 ·rcases zt.1 hB with hB|hB
  ·rcases hc.own B hB b hb with h'|h'
   ·exact .inl (qs h.size h')
   ·simp at h'
  ·exact h.own B hB b hb
 ·refine List.pairwise_append.2 ⟨hc.dis,h.dis,fun B hB C hC b hb hbC=>?_⟩;rcases hc.own B hB b hb with h'|h'
  ·have:=h.fpLt (A:=C) hC b hbC;omega
  ·simp at h'
theorem grew (h:St w0 M R w) (hc:Below w.heap.size w w'):St w0 M R w':=h.call0 (of_below hc)
theorem drew (h:St w0 M R w):St w0 M R w.drew:=h.grew (Below.refl _ _).drew
theorem drewN (h:St w0 M R w) (n:Nat):St w0 M R (w.drewN n):=h.grew ⟨rfl,rfl,rfl,zp _,fun _ _=>rfl⟩
theorem widen {M':List Nat} (h:St w0 M L w) (hM:∀ b∈M,b∈M'):St w0 M' L w:=⟨h.os,h.tape,h.output,h.size,fun b hb hb'=>h.keep b hb fun hm=>hb' (hM b hm),h.ho,fun A hA b hb=>(h.own A hA b hb).imp id (hM b),h.dis⟩
theorem newBlk (o:Obj):St w [] [blk w.heap.size o] (w.alloc o) :=
 ⟨rfl,rfl,rfl,by simp,fun b hb _=>yJ w o b hb,fun A hA=>by simp at hA;subst hA;exact heap1 w o,fun A hA b hb=>by simp at hA;subst hA;simp [blk] at hb;exact .inl (by omega),by simp⟩
theorem alloc (h:St w0 M R w) (o:Obj):St w0 M (blk w.heap.size o::R) (w.alloc o):=h.call0 (newBlk o)
theorem turn (h:St w0 M (A::R) w) (hk:∀ b,b ∉ A.fp->w'.heap[b]?=w.heap[b]?) (ho:w'.os=w.os) (ht:w'.tape=w.tape) (hp:w'.output=w.output) (hs:w'.heap.size=w.heap.size) (hA:A'.ho w') (hf:A'.fp=A.fp):St w0 M (A'::R) w':=by
 have hc:St w A.fp [A'] w':=⟨ho,ht,hp,by omega,fun b _ hb=>hk b hb,by simpa using hA,fun B hB b hb=>by simp at hB;subst hB;rw [hf] at hb;exact .inr hb,by simp⟩
 exact h.call hc
theorem setRow {g:Nat} {cs cs':Array Value} {t:TypeId} {fr:Nat×Nat} (h:St w0 M L w) (hp:Upd L (blk g (.cells cs t fr)) (blk g (.cells cs' t fr)) L'):St w0 M L' (w.setRow g cs'):=by
 obtain ⟨R,h1,h2⟩:=hp.pick;have h:=h.perm h1;have hg:w.heap[g]?=some (.cells cs t fr):=h.ho _ zS;refine (St.turn h (A':=blk g (.cells cs' t fr)) (fun b hb=>setRow_other w g b cs' fun e=>hb (by simp [blk,e])) rfl rfl rfl (by simp) (setRow_heap w g _ _ _ _ hg) rfl).perm h2.symm
theorem sep (h:St w0 M (A.sep A'::R) w):St w0 M (A::A'::R) w:=by
 obtain ⟨h1,h2,h3⟩:A.ho w∧A'.ho w∧∀ b∈A.fp,b ∉ A'.fp:=h.ho (A.sep A') (by simp);obtain ⟨hd1,hd2⟩:=zK.1 h.dis;have hfp:∀ b,b∈A.fp∨b∈A'.fp->b∈(A.sep A').fp:=fun b hb=>zt.2 hb
 refine ⟨h.os,h.tape,h.output,h.size,h.keep,fun B hB=>?_,fun B hB b hb=>?_,?_⟩
 ·simp at hB;rcases hB with rfl|rfl|hB
  ·exact h1
  ·exact h2
  ·exact h.ho B (by simp [hB])
 ·simp at hB;rcases hB with rfl|rfl|hB
  ·exact h.own (B.sep A') (by simp) b (hfp b (.inl hb))
  ·exact h.own (A.sep B) (by simp) b (hfp b (.inr hb))
  ·exact h.own B (by simp [hB]) b hb
 ·refine zK.2 ⟨fun B hB b hb=>?_,zK.2 ⟨fun B hB b hb=>hd1 B hB b (hfp b (.inr hb)),hd2⟩⟩;simp at hB;rcases hB with rfl|hB
  ·exact h3 b hb
  ·exact hd1 B hB b (hfp b (.inl hb))
theorem join (h:St w0 M (A::A'::R) w):St w0 M (A.sep A'::R) w:=by
 obtain ⟨hd1,hd2⟩:=zK.1 h.dis;obtain ⟨hd3,hd4⟩:=zK.1 hd2;refine ⟨h.os,h.tape,h.output,h.size,h.keep,fun B hB=>?_,fun B hB b hb=>?_,?_⟩
 ·simp at hB;rcases hB with rfl|hB
  ·exact ⟨h.ho A (by simp),h.ho A' (by simp),hd1 A' (by simp)⟩
  ·exact h.ho B (by simp [hB])
 ·simp at hB;rcases hB with rfl|hB
  ·rcases zt.1 hb with hb|hb
   ·exact h.own A (by simp) b hb
   ·exact h.own A' (by simp) b hb
  ·exact h.own B (by simp [hB]) b hb
 ·refine zK.2 ⟨fun B hB b hb=>?_,hd4⟩;rcases zt.1 hb with hb|hb
  ·exact hd1 B (by simp [hB]) b hb
  ·exact hd3 B hB b hb
theorem conv (h:St w0 M (A::R) w) (hf:A'.fp=A.fp) (hh:A.ho w->A'.ho w):St w0 M (A'::R) w:=by
 obtain ⟨hd1,hd2⟩:=zK.1 h.dis;refine ⟨h.os,h.tape,h.output,h.size,h.keep,fun B hB=>?_,fun B hB b hb=>?_,zK.2 ⟨fun B hB b hb=>hd1 B hB b (hf ▸ hb),hd2⟩⟩
 ·simp at hB;rcases hB with rfl|hB
  ·exact hh (h.ho A (by simp))
  ·exact h.ho B (by simp [hB])
 ·simp at hB;rcases hB with rfl|hB
  ·exact h.own A (by simp) b (hf ▸ hb)
  ·exact h.own B (by simp [hB]) b hb
end St
theorem St.at {w0 w:World} {M:List Nat} {L R:List As} {g:Nat} {o:Obj} (h:St w0 M L w) (hp:Pick L (blk g o) R):w.heap[g]?=some o:=by
 have:=h.get hp;rwa [yB] at this
structure Ks (w0:World) (M:List Nat) (K:List As):Prop where
 ho:∀ A∈K,A.ho w0
 apart:∀ A∈K,∀ b∈A.fp,b ∉ M
theorem Ks.one {w:World} {A:As} (h:A.ho w):Ks w [] [A]:=⟨by simpa using h,by simp⟩
theorem Ks.cons {w:World} {M:List Nat} {K:List As} {A:As} (h:A.ho w) (hd:∀ b∈A.fp,b ∉ M) (k:Ks w M K):Ks w M (A::K):=⟨by simpa using ⟨h,k.ho⟩,by simpa using ⟨hd,k.apart⟩⟩
theorem Ks.nil (w:World) (M:List Nat):Ks w M []:=⟨by simp,by simp⟩
theorem Ks.sep {w:World} {M:List Nat} {K:List As} {A B:As} (k:Ks w M (A.sep B::K)):Ks w M (A::B::K):=by
 have h:A.ho w∧B.ho w∧∀ b∈A.fp,b ∉ B.fp:=k.ho (A.sep B) (by simp);refine ⟨?_,?_⟩
 ·intro C hC;simp at hC;rcases hC with rfl|rfl|hC
  ·exact h.1
  ·exact h.2.1
  ·exact k.ho C (by simp [hC])
 ·intro C hC b hb;simp at hC;rcases hC with rfl|rfl|hC
  ·exact k.apart (C.sep B) (by simp) b (zt.2 (.inl hb))
  ·exact k.apart (A.sep C) (by simp) b (zt.2 (.inr hb))
  ·exact k.apart C (by simp [hC]) b hb
theorem St.known {w0 w:World} {M:List Nat} {L K R:List As} {A:As} (h:St w0 M L w) (k:Ks w0 M K) (hp:Pick K A R):A.ho w:=h.old (k.ho A hp.mem) (k.apart A hp.mem)
theorem St.knownAt {w0 w:World} {M:List Nat} {L K R:List As} {g:Nat} {o:Obj} (h:St w0 M L w) (k:Ks w0 M K) (hp:Pick K (blk g o) R):w.heap[g]?=some o:=by
 have:=h.known k hp;rwa [yB] at this
attribute [irreducible] blk As.sep
theorem gt {P:Prop} (h:P:=by first|exact H.at pk|exact H.knownAt HK pk):P:=h
theorem gq {P:Prop} (h:P:=by first|exact fun y=>(HX y).at pk|exact fun y=>(HX y).knownAt HK pk):P:=h
def nth {α:Type}:List α->Nat->Option α
 |[],_=>none
 |x::_,0=>some x
 |_::r,n+1=>nth r n
theorem Zf {α:Type}:∀ (l:List α) (n:Nat),nth l n=l[n]?
 |[],n=>by cases n <;> rfl
 |x::_,0=>by simp [nth]
 |_::r,n+1=>by simp [nth,Zf r n]
def Qd {α:Type}:List α->Nat->Nat->Option (List α)
 |_,0,0=>some []
 |[],_,_=>none
 |x::l,0,n+1=>match Qd l 0 n with|some r=>some (x::r)|none=>none
 |_::l,o+1,n=>Qd l o n
theorem kN {α:Type}:∀ (l:List α) (o n:Nat) (r:List α),Qd l o n=some r->(l.drop o).take n=r∧r.length=n
 |[],0,0,r,h=>by simp [Qd] at h;subst h;simp
 |x::l,0,0,r,h=>by simp [Qd] at h;subst h;simp
 |[],0,n+1,r,h=>by simp [Qd] at h
 |[],o+1,n,r,h=>by simp [Qd] at h
 |x::l,0,n+1,r,h=>by
  simp only [Qd] at h;split at h
  ·rename_i r' hr;have:=kN l 0 n r' hr;injection h with h
   subst h;simp only [y8] at this ⊢;simp [this.1,this.2]
  ·cases h
 |_::l,o+1,n,r,h=>by
  have:=kN l o n r (by simpa [Qd] using h);simpa using this
def QL {α:Type}:List α->Nat->List α->Option (List α)
 |l,0,[]=>some l
 |[],_,_=>none
 |_::l,0,y::ys=>match QL l 0 ys with|some r=>some (y::r)|none=>none
 |x::l,o+1,ys=>match QL l o ys with|some r=>some (x::r)|none=>none
theorem ZK {α:Type}:∀ (l:List α) (o:Nat) (ys r:List α),QL l o ys=some r->o+ys.length<=l.length∧l.take o++ys++l.drop (o+ys.length)=r
 |[],0,[],r,h=>by simp [QL] at h;subst h;simp
 |x::l,0,[],r,h=>by simp [QL] at h;subst h;simp
 |[],0,y::ys,r,h=>by simp [QL] at h
 |[],o+1,ys,r,h=>by cases ys <;> simp [QL] at h
 |x::l,0,y::ys,r,h=>by
  simp only [QL] at h;split at h
  ·rename_i r' hr;obtain ⟨h1,h2⟩:=ZK l 0 ys r' hr;injection h with h
   subst h;simp only [jG,z8,qA] at h1 h2;refine ⟨by simp at h1 ⊢;omega,?_⟩;simp [h2]
  ·cases h
 |x::l,o+1,ys,r,h=>by
  have h':(match QL l o ys with|some r=>some (x::r)|none=>none)=some r:=(by cases ys <;> simpa [QL] using h);split at h'
  ·rename_i r' hr;obtain ⟨h1,h2⟩:=ZK l o ys r' hr;injection h' with h'
   subst h';refine ⟨by simp at h1 ⊢;omega,?_⟩;rw [← h2,show o+1+ys.length=(o+ys.length)+1 by omega];simp
  ·cases h'
def xL (a:Act):Operand->Option Value
 |.tmp t=>nth a.tmps.toList t
 |.const v=>some v
 |_=>none
theorem xR {a:Act} {x:Operand} {v:Value} (h:xL a x=some v):a.eval x=v:=by
 cases x with
 |tmp t =>
  simp only [xL,Zf] at h;have:a.tmps[t]?=some v:=by simpa using h
  simp [Act.eval,this]
 |const v'=>simpa [xL,Act.eval] using h
 |global g=>simp [xL] at h
 |func f=>simp [xL] at h
def wH:Value->Option (Array Value)
 |.agg cs=>some cs
 |v=>some #[v]
theorem vD {v:Value} {cs:Array Value} (h:wH v=some cs):v.cells=cs:=by
 cases v <;> simpa [wH,Value.cells] using h
section
variable {P:Program} {ops:Array Oper} {Q:Exit->Act->World->Prop} {rest:List Oper} {a:Act} {w w0:World} {M:List Nat} {L L' R:List As} {dst:Option Tmp} {ty0:TypeId} {pos:String} {aft:Array Edge} {gd:Option (Nat×Bool)}
def AtLoad (P:Program) (ops:Array Oper) (Q:Exit->Act->World->Prop) (o:Oper) (_:TypeId) (_:Operand) (rest:List Oper) (a:Act) (w:World):Prop:=wpList P ops Q (o::rest) a w
def AtStore (P:Program) (ops:Array Oper) (Q:Exit->Act->World->Prop) (o:Oper) (_:TypeId) (_ _:Operand) (rest:List Oper) (a:Act) (w:World):Prop:=wpList P ops Q (o::rest) a w
def AtBox (P:Program) (ops:Array Oper) (Q:Exit->Act->World->Prop) (o:Oper) (_:TypeId) (_:Operand) (rest:List Oper) (a:Act) (w:World):Prop:=wpList P ops Q (o::rest) a w
def AtAlloc (P:Program) (ops:Array Oper) (Q:Exit->Act->World->Prop) (o:Oper) (_:TypeId) (rest:List Oper) (a:Act) (w:World):Prop:=wpList P ops Q (o::rest) a w
theorem qN {t:TypeId} {x:Operand} (h:AtLoad P ops Q ⟨dst,.load t x,ty0,pos,aft,gd⟩ t x rest a w):wpList P ops Q (⟨dst,.load t x,ty0,pos,aft,gd⟩::rest) a w:=h
theorem yy {t:TypeId} {x y:Operand} (h:AtStore P ops Q ⟨dst,.store t x y,ty0,pos,aft,gd⟩ t x y rest a w):wpList P ops Q (⟨dst,.store t x y,ty0,pos,aft,gd⟩::rest) a w:=h
theorem isBox {t:TypeId} {x:Operand} (h:AtBox P ops Q ⟨dst,.box t x,ty0,pos,aft,gd⟩ t x rest a w):wpList P ops Q (⟨dst,.box t x,ty0,pos,aft,gd⟩::rest) a w:=h
theorem isAlloc {t:TypeId} (h:AtAlloc P ops Q ⟨dst,.alloc t,ty0,pos,aft,gd⟩ t rest a w):wpList P ops Q (⟨dst,.alloc t,ty0,pos,aft,gd⟩::rest) a w:=h
def wy (P:Program) (ty:TypeId) (n:Nat):Bool:=(match P.underlying ty with|some (.struct _)|some (.array _ _)=>true|_=>false)&&(P.info? ty).map (·.size)==some n
def wG (P:Program) (ty:TypeId):Bool:=(match P.underlying ty with|some (.struct _)|some (.array _ _)|none=>false|_=>true)&&(P.info? ty).map (·.size)==some 1
theorem xY {ty:TypeId} {n g o:Nat} {cs:Array Value} {t:TypeId} {fr:Nat×Nat} {vs:List Value} (hr:wy P ty n=true) (hg:w.heap[g]?=some (.cells cs t fr)) (hl:(cs.toList.drop o).take n=vs) (hn:vs.length=n) :
  (Instr.loadAt ty (.pointer (some ⟨g,o,none⟩))).run P w=.ok (.agg vs.toArray) w:=by
 unfold wy at hr;simp only [zf,beq_iff_eq] at hr;have hc:w.rangeAt g o vs:=fun j v hv=>by
  rw [cell_of_row w g (o+j) cs t fr hg];subst hl;rw [wZ] at hv;split at hv
  ·rw [xN] at hv;simpa using hv
  ·cases hv
 cases hu:P.underlying ty with
 |none=>simp [hu] at hr
 |some d=>exact run_loadAt_mid w g o ty vs d hc hu (by simp only [hu] at hr;cases d <;> simp_all [TypeDesc.isRow]) (by rw [hn];exact hr.2)
theorem ke {ty:TypeId} {g o:Nat} {cs:Array Value} {t:TypeId} {fr:Nat×Nat} {v:Value} (hr:wG P ty=true) (hg:w.heap[g]?=some (.cells cs t fr)) (hv:cs[o]?=some v) :
  (Instr.loadAt ty (.pointer (some ⟨g,o,none⟩))).run P w=.ok v w:=by
 unfold wG at hr;simp only [zf,beq_iff_eq] at hr;have hc:w.cell? ⟨g,o,none⟩=some v:=(by rw [cell_of_row w g o cs t fr hg];exact hv);cases hu:P.underlying ty with
 |none=>simp [hu] at hr
 |some d =>
  have hagg:(isAgg ty).run P w=.ok false w:=by
   unfold isAgg;rw [Sem.run_bind,run_underlying hu w];simp only [hu] at hr;cases d <;> simp_all
  simp [Instr.loadAt,Instr.sureAddr,loadVar,Sem.run_bind,hagg,run_load,hc]
theorem AtLoad.row {o1:Oper} {ty:TypeId} {x:Operand} (hw:Region.wanted o1 (yielded ops a.tmps)=true) (ho:o1.op=.load ty x) (n:Nat) {g o:Nat} (hx:a.eval x=.pointer (some ⟨g,o,none⟩)) {cs:Array Value} {t:TypeId} {fr:Nat×Nat} (hg:w.heap[g]?=some (.cells cs t fr))
  (hr:wy P ty n=true) {vs:List Value} (hl:(cs.toList.drop o).take n=vs) (hn:vs.length=n)
  (h:wpList P ops Q rest (a.put o1.dst (.agg vs.toArray)) w):AtLoad P ops Q o1 ty x rest a w :=
 wpList_step fun _ hK=>by
  rw [if_pos hw];unfold Oper.wp execOp;simp only [ho,hx,Sem.run_bind,xY hr hg hl hn,Result.andThen_ok];exact hK _ _ h
theorem AtLoad.whole {o1:Oper} {ty:TypeId} {x:Operand} (hw:Region.wanted o1 (yielded ops a.tmps)=true) (ho:o1.op=.load ty x) {g:Nat} (hx:a.eval x=.pointer (some ⟨g,0,none⟩)) {cs:Array Value} {t:TypeId} {fr:Nat×Nat} (hg:w.heap[g]?=some (.cells cs t fr))
  (hr:wy P ty cs.size=true) (h:wpList P ops Q rest (a.put o1.dst (.agg cs)) w):AtLoad P ops Q o1 ty x rest a w :=
 AtLoad.row hw ho cs.size hx hg hr (vs:=cs.toList) (by simp only [y8];exact zM (by simp)) (by simp) (by simpa using h)
theorem AtLoad.cell {o1:Oper} {ty:TypeId} {x:Operand} (hw:Region.wanted o1 (yielded ops a.tmps)=true) (ho:o1.op=.load ty x) {g o:Nat} (hx:a.eval x=.pointer (some ⟨g,o,none⟩)) {cs:Array Value} {t:TypeId} {fr:Nat×Nat} (hg:w.heap[g]?=some (.cells cs t fr))
  (hr:wG P ty=true) {v:Value} (hv:nth cs.toList o=some v) (h:wpList P ops Q rest (a.put o1.dst v) w):AtLoad P ops Q o1 ty x rest a w :=
 wpList_step fun _ hK=>by
  rw [if_pos hw];unfold Oper.wp execOp;simp only [ho,hx,Sem.run_bind,ke hr hg (by rw [Zf] at hv;simpa using hv),Result.andThen_ok];exact hK _ _ h
theorem AtLoad.rng {o1:Oper} {ty:TypeId} {x:Operand} (hw:Region.wanted o1 (yielded ops a.tmps)=true) (ho:o1.op=.load ty x) {g o:Nat} (hx:a.eval x=.pointer (some ⟨g,o,none⟩)) {vs:List Value} (hc:w.rangeAt g o vs)
  (hr:wy P ty vs.length=true) (h:wpList P ops Q rest (a.put o1.dst (.agg vs.toArray)) w):AtLoad P ops Q o1 ty x rest a w :=
 wpList_step fun _ hK=>by
  rw [if_pos hw];unfold wy at hr;simp only [zf,beq_iff_eq] at hr;unfold Oper.wp execOp;cases hu:P.underlying ty with
  |none=>simp [hu] at hr
  |some d =>
   simp only [ho,hx,Sem.run_bind,run_loadAt_mid w g o ty vs d hc hu (by simp only [hu] at hr;cases d <;> simp_all [TypeDesc.isRow]) hr.2,Result.andThen_ok];exact hK _ _ h
theorem AtBox.go {o1:Oper} {ty:TypeId} {x:Operand} (H:St w0 M L w) (hw:Region.wanted o1 (yielded ops a.tmps)=true) (ho:o1.op=.box ty x) {v:Value} (hx:xL a x=some v) {cs:Array Value} (hc:wH v=some cs)
  (h:∀ b w',St w0 M (blk b (.cells cs ty)::L) w'->wpList P ops Q rest (a.put o1.dst (.pointer (some ⟨b,0,none⟩))) w'):AtBox P ops Q o1 ty x rest a w :=
 wpList_step fun _ hK=>by
  rw [if_pos hw];unfold Oper.wp execOp;simp only [ho,xR hx,Instr.box,newVar,newRow,vD hc,Sem.run_bind,run_newObj_alloc,Result.andThen_ok,Sem.run_pure];exact hK _ _ (h _ _ (H.alloc _))
theorem AtAlloc.go {o1:Oper} {ty:TypeId} (H:St w0 M L w) (hw:Region.wanted o1 (yielded ops a.tmps)=true) (ho:o1.op=.alloc ty) {z:Value} (hz:∀ w,(zeroValue ty).run P w=.ok z w) {cs:Array Value} (hc:wH z=some cs)
  (h:∀ b w',St w0 M (blk b (.cells cs ty)::L) w'->wpList P ops Q rest (a.put o1.dst (.pointer (some ⟨b,0,none⟩))) w'):AtAlloc P ops Q o1 ty rest a w :=
 wpList_step fun _ hK=>by
  rw [if_pos hw];unfold Oper.wp execOp;simp only [ho,Instr.alloc,hz,newVar,newRow,vD hc,Sem.run_bind,run_newObj_alloc,Result.andThen_ok,Sem.run_pure];exact hK _ _ (h _ _ (H.alloc _))
theorem AtStore.mid {o1:Oper} {ty:TypeId} {x y:Operand} (H:St w0 M L w) (hw:Region.wanted o1 (yielded ops a.tmps)=true) (ho:o1.op=.store ty x y) {g o:Nat} (hx:a.eval x=.pointer (some ⟨g,o,none⟩)) {v:Value} (hy:xL a y=some v) {vs:Array Value} (hv:wH v=some vs)
  (hi:(P.info? ty).map (·.size)=some vs.size) (h1:vs.all (·.oneCell')=true) {cs cs':Array Value} {t:TypeId}
  (hp:Upd L (blk g (.cells cs t)) (blk g (.cells cs' t)) L') (hl:o+vs.size<=cs.size) (hn:(cs.toList.take o++vs.toList++cs.toList.drop (o+vs.size)).toArray=cs')
  (h:∀ w',St w0 M L' w'->wpList P ops Q rest (a.put o1.dst undef) w'):AtStore P ops Q o1 ty x y rest a w :=
 wpList_step fun _ hK=>by
  rw [if_pos hw];obtain rfl:=vD hv;obtain ⟨R,hR,_⟩:=hp.pick;have hg:w.heap[g]?=some (.cells cs t):=(by have:=H.ho _ (hR.mem_iff.2 zS);rwa [yB] at this);unfold Oper.wp execOp;simp only [ho,hx,xR hy,Instr.storeAt,Instr.sureAddr,Sem.run_bind,Sem.run_pure,Result.andThen_ok,kU w g o t ty cs v hg hi hl (fun u hu=>by simpa using Array.all_eq_true'.1 h1 u (by simpa using hu))];refine hK _ _ (h _ ?_);rw [hn];exact H.setRow hp
theorem AtStore.whole {o1:Oper} {ty:TypeId} {x y:Operand} (H:St w0 M L w) (hw:Region.wanted o1 (yielded ops a.tmps)=true) (ho:o1.op=.store ty x y) {g:Nat} (hx:a.eval x=.pointer (some ⟨g,0,none⟩)) {cs':Array Value} (hy:xL a y=some (.agg cs'))
  (hi:(P.info? ty).map (·.size)=some cs'.size) (h1:cs'.all (·.oneCell')=true) {cs:Array Value} {t:TypeId}
  (hp:Upd L (blk g (.cells cs t)) (blk g (.cells cs' t)) L') (hl:cs.size=cs'.size)
  (h:∀ w',St w0 M L' w'->wpList P ops Q rest (a.put o1.dst undef) w'):AtStore P ops Q o1 ty x y rest a w :=
 AtStore.mid H hw ho hx hy rfl hi h1 hp (by omega) (by simp only [jG,z8,qA];rw [xg (by simp;omega)];simp) h
theorem AtStore.cell {o1:Oper} {ty:TypeId} {x y:Operand} (H:St w0 M L w) (hw:Region.wanted o1 (yielded ops a.tmps)=true) (ho:o1.op=.store ty x y) {g o:Nat} (hx:a.eval x=.pointer (some ⟨g,o,none⟩)) {v:Value} (hy:xL a y=some v)
  (h1:v.oneCell'=true) (hi:(P.info? ty).map (·.size)=some 1) {cs cs':Array Value} {t:TypeId}
  (hp:Upd L (blk g (.cells cs t)) (blk g (.cells cs' t)) L') (hl:o<cs.size) (hn:cs.setIfInBounds o v=cs')
  (h:∀ w',St w0 M L' w'->wpList P ops Q rest (a.put o1.dst undef) w'):AtStore P ops Q o1 ty x y rest a w:=by
 have hc:wH v=some #[v]:=(by cases v <;> first|rfl|cases h1);refine AtStore.mid H hw ho hx hy hc hi (by simp [h1]) hp (by simp;omega) ?_ h;rw [← hn];apply yE;intro j;have hj:o<=cs.size:=(by omega);simp only [List.getElem?_toArray,YX,y7,List.getElem?_append,yD,Array.length_toList,wi hj,wZ,xN,Zn];by_cases h2:j<o
 ·simp [h2];intro h5;omega
 ·by_cases h3:o=j
  ·subst h3;simp [hl]
  ·have h4:¬ j-o<1:=(by omega);simp [h2,h3];rw [if_neg (by omega)];congr 1;omega
end
end Go.Proofs.YtminpdngkjlehaaDoor
end
namespace Go.Proofs.YtminpdngkjlehaaDoor
section
open Go.RowKit
section
variable {P:Program} {Q:Exit->Act->World->Prop} {a:Act} {w w0:World} {M:List Nat} {L R:List As}
def valK:Option Nat->Nat->Value
 |none,b=>.pointer (some ⟨b,0,none⟩)
 |some k,b=>.slice (some ⟨b,0,none⟩) k k
theorem kF (k:Option Nat) (b:Nat):xr (valK k b)=some b:=by cases k <;> rfl
def IsNew (n:Nat) (xs:Array Value) (t:TypeId) (k:Option Nat) (v:Value) (w:World):Prop:=∃ b,v=valK k b∧n<=b∧w.heap[b]?=some (.cells xs t)
theorem IsNew.stable (n:Nat) (xs:Array Value) (t:TypeId) (k:Option Nat):∀ v w w',Grew w w'->IsNew n xs t k v w->IsNew n xs t k v w':=fun _ _ _ hg ⟨b,hv,hn,hb⟩=>⟨b,hv,hn,qE hg hb⟩
abbrev Zo:=Nat×TypeId×Array Value×Option Nat
def W9 (n0:Nat) (Fs:List Zo):List (Nat×(Value->World->Prop)):=Fs.map fun f=>(f.1,IsNew n0 f.2.2.1 f.2.1 f.2.2.2)
def Qo (bs:Nat->Nat):Nat->List Zo->List As
 |_,[]=>[]
 |k,(n,ty,cs,_)::Fs=>blk (bs (k+n)) (.cells cs ty)::Qo bs (k+n+1) Fs
def VN (bs:Nat->Nat):List Zo->List (Nat×Tmp)->Act->Act
 |f::Fs,p::S,a=>VN bs Fs S (a.put (some p.2) (valK f.2.2.2 (bs p.1)))
 |_,_,a=>a
theorem QC (n0:Nat):∀ (Fs:List Zo),nsF (W9 n0 Fs)=Fs.map (·.1)
 |[]=>rfl
 |_::Fs=>by simp only [nsF,W9,qU];exact congrArg _ (QC n0 Fs)
theorem QH (n0:Nat):∀ (Fs:List Zo),QS (W9 n0 Fs)
 |[]=>trivial
 |_::Fs=>⟨IsNew.stable _ _ _ _,QH n0 Fs⟩
theorem YC:∀ (ns:List Nat) (k x:Nat),x∈y9 k ns->k<=x
 |[],_,_,h=>by simp [y9] at h
 |n::ns,k,x,h=>by
  simp only [y9,zG] at h;rcases h with rfl|h
  ·omega
  ·have:=YC ns _ _ h;omega
theorem Xk {n0:Nat} {vals:Nat->Value} {w':World}:∀ (Fs:List Zo) (k:Nat),Y2 vals w' k (W9 n0 Fs)->∀ i∈y9 k (Fs.map (·.1)),∃ b,xr (vals i)=some b∧n0<=b
 |[],_,_,i,hi=>by simp [y9] at hi
 |(n,ty,cs,kd)::Fs,k,h,i,hi=>by
  obtain ⟨⟨b,hb1,hb2,_⟩,h2⟩:=h;simp only [qU,y9,zG] at hi;rcases hi with rfl|hi
  ·exact ⟨b,by simp only at hb1;rw [hb1];exact kF _ _,hb2⟩
  ·exact Xk Fs _ h2 i hi
theorem Wu {n0:Nat} {vals:Nat->Value} {w':World} (H:St w0 M L w') (hn0:w0.heap.size<=n0) (hL:∀ A∈L,∀ b∈A.fp,b<n0):∀ (Fs:List Zo) (k:Nat),Y2 vals w' k (W9 n0 Fs) ->
  (∀ i∈y9 k (Fs.map (·.1)),∀ j∈y9 k (Fs.map (·.1)),i≠j->xr (vals i)≠xr (vals j)) ->
  St w0 M (Qo (fun i=>(xr (vals i)).getD 0) k Fs++L) w'∧∀ A∈Qo (fun i=>(xr (vals i)).getD 0) k Fs,∃ i∈y9 k (Fs.map (·.1)),A.fp=[(xr (vals i)).getD 0]
 |[],_,_,_=>⟨H,by simp [Qo]⟩
 |(n,ty,cs,kd)::Fs,k,h,hd=>by
  obtain ⟨⟨b,hb1,hb2,hb3⟩,h2⟩:=h;have hsub:∀ i,i∈y9 (k+n+1) (Fs.map (·.1))->i∈y9 k (((n,ty,cs,kd)::Fs).map (·.1)):=fun i hi=>by simp only [qU,y9,zG];exact .inr hi
  obtain ⟨ih,ihf⟩:=Wu H hn0 hL Fs (k+n+1) h2 (fun i hi j hj=>hd i (hsub i hi) j (hsub j hj));have e:(xr (vals (k+n))).getD 0=b:=(by simp only at hb1;rw [hb1,kF];rfl);have hk:k+n∈y9 k (((n,ty,cs,kd)::Fs).map (·.1)):=(by simp [y9]);simp only [Qo,z7];refine ⟨⟨ih.os,ih.tape,ih.output,ih.size,ih.keep,fun A hA=>?_,fun A hA c hc=>?_,zK.2 ⟨fun A hA c hc=>?_,ih.dis⟩⟩,fun A hA=>?_⟩
  ·rcases zG.1 hA with rfl|hA
   ·rw [yB,e];exact hb3
   ·exact ih.ho A hA
  ·rcases zG.1 hA with rfl|hA
   ·rw [qi,e] at hc;simp at hc;subst hc;exact .inl (qs hn0 hb2)
   ·exact ih.own A hA c hc
  ·rw [qi,e] at hc;simp at hc;subst hc;rcases zt.1 hA with hA|hA
   ·obtain ⟨i,hi,hf⟩:=ihf A hA;rw [hf];have hne:k+n≠i:=(by have:=YC _ _ _ hi;omega);have:=hd (k+n) hk i (hsub i hi) hne;obtain ⟨b',hb',_⟩:=Xk Fs _ h2 i hi;simp only at hb1;rw [hb1,kF,hb'] at this;rw [hb'];simpa using this
   ·intro hc;have:=hL A hA _ hc;omega
  ·rcases zG.1 hA with rfl|hA
   ·exact ⟨k+n,hk,by rw [qi]⟩
   ·obtain ⟨i,hi,hf⟩:=ihf A hA;exact ⟨i,hsub i hi,hf⟩
theorem XD {n0:Nat} {vals:Nat->Value} {w':World}:∀ (Fs:List Zo) (k:Nat) (S:List (Nat×Tmp)) (a:Act),S.map (·.1)=y9 k (Fs.map (·.1))->Y2 vals w' k (W9 n0 Fs)->xC S vals a=VN (fun i=>(xr (vals i)).getD 0) Fs S a
 |[],_,[],_,_,_=>rfl
 |[],_,p::S,_,h,_=>by simp [y9] at h
 |(n,ty,cs,kd)::Fs,k,[],_,h,_=>by simp [y9] at h
 |(n,ty,cs,kd)::Fs,k,p::S,a,h,hE=>by
  obtain ⟨⟨b,hb1,hb2,hb3⟩,h2⟩:=hE;simp only [qU,y9,je.injEq] at h;simp only at hb1;show xC S vals (a.put (some p.2) (vals p.1))=VN _ Fs S (a.put (some p.2) _)
  rw [XD Fs (k+n+1) S _ h.2 h2,h.1,hb1];simp only [hb1,kF,qV]
theorem zr {id:Nat} {l:List Oper} (H:St w0 M L w) (m:Nat) (Fs:List Zo) (S:List (Nat×Tmp)) (hm:P.follows .mixedOrders=true)
  (hB:qaB l m (Fs.map (·.1)) S=true) (h:∃ A:Act,(∀ w1,w.heap.size<=w1.heap.size->(∀ x:Gr w1,St w0 M L x.1)->Qh P l.toArray w1 (fun a'=>a'=A) (W9 w.heap.size Fs) (l.take m) a) ∧
  ∀ (bs:Nat->Nat) (w':World),St w0 M (Qo bs 0 Fs++L) w'->wpList P l.toArray Q (l.drop m) (VN bs Fs S A) w'):(Code.region id l.toArray true).wp P Q a w:=by
 obtain ⟨A,hA,fin⟩:=h;have hS:S.map (·.1)=y9 0 (Fs.map (·.1)):=by
  simp only [qaB,zf,decide_eq_true_eq] at hB;exact hB.1.1.2
 refine Wj m (W9 w.heap.size Fs) S hm (by rw [QC];exact hB) (QH _ _) A (fun w1 hg=>hA w1 hg.size fun x=>H.grew (Grew.trans hg x.2)) fun vals w' hg hE hd=>?_
 rw [hS] at hd;obtain ⟨h1,_⟩:=Wu (H.grew hg) H.size (fun A hA b hb=>H.fpLt hA b hb) Fs 0 hE hd;have h2:=fin _ w' h1;rw [XD Fs 0 S A hS hE];exact h2
section
variable {ops:Array Oper} {C:World->Prop} {K:Act->Prop} {rest:List Oper} {dst:Option Tmp} {ty0:TypeId} {pos:String} {aft:Array Edge} {gd:Option (Nat×Bool)} {w1:World}
def QtLoad (P:Program) (ops:Array Oper) (C:World->Prop) (K:Act->Prop) (o:Oper) (_:TypeId) (_:Operand) (rest:List Oper) (a:Act):Prop:=wpQuiet P ops C K (o::rest) a
theorem kI {t:TypeId} {x:Operand} (h:QtLoad P ops C K ⟨dst,.load t x,ty0,pos,aft,gd⟩ t x rest a):wpQuiet P ops C K (⟨dst,.load t x,ty0,pos,aft,gd⟩::rest) a:=h
theorem QtLoad.row {o1:Oper} {ty:TypeId} {x:Operand} (hw:Region.wanted o1 (yielded ops a.tmps)=true) (ho:o1.op=.load ty x) (n:Nat) {g o:Nat} (hx:a.eval x=.pointer (some ⟨g,o,none⟩)) {cs:Array Value} {t:TypeId} {fr:Nat×Nat} (hg:∀ y:Gr w1,y.1.heap[g]?=some (.cells cs t fr))
  (hr:wy P ty n=true) {vs:List Value} (hl:(cs.toList.drop o).take n=vs) (hn:vs.length=n)
  (h:wpQuiet P ops (qM w1) K rest (a.put o1.dst (.agg vs.toArray))):QtLoad P ops (qM w1) K o1 ty x rest a :=
 wpQuiet_step fun _ hK=>by
  rw [if_pos hw];refine ⟨.agg vs.toArray,fun w2 ⟨y,hy⟩=>?_,hK _ h⟩;subst hy;unfold Oper.quietAt execOp;simp only [ho,hx,Sem.run_bind,xY hr (hg y) hl hn,Result.andThen_ok];exact ⟨rfl,rfl⟩
theorem QtLoad.whole {o1:Oper} {ty:TypeId} {x:Operand} (hw:Region.wanted o1 (yielded ops a.tmps)=true) (ho:o1.op=.load ty x) {g:Nat} (hx:a.eval x=.pointer (some ⟨g,0,none⟩)) {cs:Array Value} {t:TypeId} {fr:Nat×Nat} (hg:∀ y:Gr w1,y.1.heap[g]?=some (.cells cs t fr))
  (hr:wy P ty cs.size=true) (h:wpQuiet P ops (qM w1) K rest (a.put o1.dst (.agg cs))):QtLoad P ops (qM w1) K o1 ty x rest a :=
 QtLoad.row hw ho cs.size hx hg hr (vs:=cs.toList) (by simp only [y8];exact zM (by simp)) (by simp) (by simpa using h)
theorem QtLoad.cell {o1:Oper} {ty:TypeId} {x:Operand} (hw:Region.wanted o1 (yielded ops a.tmps)=true) (ho:o1.op=.load ty x) {g o:Nat} (hx:a.eval x=.pointer (some ⟨g,o,none⟩)) {cs:Array Value} {t:TypeId} {fr:Nat×Nat} (hg:∀ y:Gr w1,y.1.heap[g]?=some (.cells cs t fr))
  (hr:wG P ty=true) {v:Value} (hv:nth cs.toList o=some v) (h:wpQuiet P ops (qM w1) K rest (a.put o1.dst v)):QtLoad P ops (qM w1) K o1 ty x rest a :=
 wpQuiet_step fun _ hK=>by
  rw [if_pos hw];refine ⟨v,fun w2 ⟨y,hy⟩=>?_,hK _ h⟩;subst hy;unfold Oper.quietAt execOp;simp only [ho,hx,Sem.run_bind,ke hr (hg y) (by rw [Zf] at hv;simpa using hv),Result.andThen_ok];exact ⟨rfl,rfl⟩
theorem QtLoad.rng {o1:Oper} {ty:TypeId} {x:Operand} (hw:Region.wanted o1 (yielded ops a.tmps)=true) (ho:o1.op=.load ty x) {g o:Nat} (hx:a.eval x=.pointer (some ⟨g,o,none⟩)) {vs:List Value} (hc:∀ y:Gr w1,y.1.rangeAt g o vs)
  (hr:wy P ty vs.length=true) (h:wpQuiet P ops (qM w1) K rest (a.put o1.dst (.agg vs.toArray))):QtLoad P ops (qM w1) K o1 ty x rest a :=
 wpQuiet_step fun _ hK=>by
  rw [if_pos hw];unfold wy at hr;simp only [zf,beq_iff_eq] at hr;refine ⟨.agg vs.toArray,fun w2 ⟨y,hy⟩=>?_,hK _ h⟩;subst hy;unfold Oper.quietAt execOp;cases hu:P.underlying ty with
  |none=>simp [hu] at hr
  |some d =>
   simp only [ho,hx,Sem.run_bind,run_loadAt_mid y.1 g o ty vs d (hc y) hu (by simp only [hu] at hr;cases d <;> simp_all [TypeDesc.isRow]) hr.2,Result.andThen_ok];exact ⟨rfl,rfl⟩
end
theorem res_h {fn:Func} {p:Tmp} {ty:TypeId} (h:fn.results=#[.cell p ty]) (H:St w0 M L w) {tmps:Array Value} {g:Nat} {cs:Array Value} {t:TypeId} {fr:Nat×Nat} (hp:tmps.getD p undef=.pointer (some ⟨g,0,none⟩)) (hk:Pick L (blk g (.cells cs t fr)) R) (hr:wy P ty cs.size=true) :
  (results fn tmps).run P w=.ok (.agg cs) w:=by
 have hl:=xY (w:=w) hr (H.at hk) (o:=0) (vs:=cs.toList) (by simp only [y8];exact zM (by simp)) (by simp);simp only [Instr.loadAt,Instr.sureAddr,Sem.run_bind,Sem.run_pure,Result.andThen_ok] at hl;have hp':tmps[p]?.getD undef=.pointer (some ⟨g,0,none⟩):=(by simpa using hp);simp [results,h,hp',asAddr,hl]
theorem VO {fn:Func} {p u:Tmp} {ty:TypeId} (h:fn.results=#[.cell p ty,.tmp u]) (H:St w0 M L w) {tmps:Array Value} {g:Nat} {cs:Array Value} {t:TypeId} {fr:Nat×Nat} (hp:tmps.getD p undef=.pointer (some ⟨g,0,none⟩)) (hk:Pick L (blk g (.cells cs t fr)) R) (hr:wy P ty cs.size=true) {x:Value} (hx:tmps.getD u undef=x) :
  (results fn tmps).run P w=.ok (.tuple #[.agg cs,x]) w:=by
 have hl:=xY (w:=w) hr (H.at hk) (o:=0) (vs:=cs.toList) (by simp only [y8];exact zM (by simp)) (by simp);simp only [Instr.loadAt,Instr.sureAddr,Sem.run_bind,Sem.run_pure,Result.andThen_ok] at hl;rw [results_cell_tmp h,hp,hx];simp [asAddr,hl,Result.andThen]
end
end
section
open Go.RowKit
structure OS where
 use:List Nat
 rd:List Nat
 D:List Nat
 R:Value->List Value->Prop
 Y:Value->List Value->List As
def OS.nil:OS:=⟨[],[],[],fun _ _=>True,fun _ _=>[]⟩
section
variable {P:Program} {ops:Array Oper}
def Zi (P:Program) (R:Value->World->Prop):Result Next->Prop
 |.ok (.value v) w'=>R v w'
 |.ok .skip w'=>R undef w'
 |.ok (.enter f args) w'=>Calls P f args w' fun e w''=>∃ v,e=.returned v∧R v w''
 |_=>False
def Jj (P:Program) (o:Oper) (a:Act) (w:World) (R:Value->World->Prop):Prop:=Zi P R ((execOp a.eval o).run P w)
def StStep (P:Program) (ops:Array Oper) (o:Oper) (a:Act) (w:World) (R:Value->World->Prop):Prop :=
 if Region.wanted o (yielded ops a.tmps) then Jj P o a w R else R undef w
end
end
section
open Go.RowKit
structure GS where
 D:List Nat
 R:Value->List Value->Prop
def gAt (Ss:List GS) (k:Nat):GS:=Ss.getD k ⟨[],fun _ _=>True⟩
def vk (Ss:List GS) (vals:Nat->Value) (k:Nat):Prop:=(gAt Ss k).R (vals k) ((gAt Ss k).D.map vals)
def cAt (Cs:List ((Nat->Value)->World->Prop)) (s:Nat) (vals:Nat->Value) (w:World):Prop:=Cs.getD s (fun _ _=>True) vals w
def upV (vals:Nat->Value) (k:Nat) (v:Value):Nat->Value:=fun i=>if i=k then v else vals i
theorem Jl (vals:Nat->Value) (k:Nat) (v:Value):upV vals k v k=v:=by simp [upV]
theorem upV_ne (vals:Nat->Value) {k i:Nat} (v:Value) (h:i≠k):upV vals k v i=vals i:=by simp [upV,h]
def Xm (ops:Array Oper) (Bs:List Nat) (k s:Nat):Bool:=Bs.zipIdx.all fun p=>(!xJ ops ops.size k p.1 || decide (p.2<s))&&(!xJ ops ops.size p.1 k || decide (s<=p.2))&&(decide (p.1≠k) || decide (s=p.2))
def sgB (ops:Array Oper) (m:Nat) (Ss:List GS) (Bs:List Nat) (SL:List (List Nat)):Bool :=
 Xp ops m&&((zl m).all fun k=>(gAt Ss k).D.all fun i=>decide (i<m)&&xJ ops ops.size k i)&&(Bs.all fun b=>decide (b<m)) &&
 ((zl Bs.length).all fun j=>(zl j).all fun i=>xJ ops ops.size (Bs.getD j 0) (Bs.getD i 0)) &&
 ((zl m).all fun k=>(zl (Bs.length+1)).all fun s=>!Xm ops Bs k s || (SL.getD k []).contains s)
theorem Vq {ops:Array Oper} {Bs:List Nat} {k s:Nat} (h:∀ i b,Bs[i]?=some b->(xJ ops ops.size k b=true->i<s)∧(xJ ops ops.size b k=true->s<=i)∧(b=k->s=i)):Xm ops Bs k s=true:=by
 unfold Xm;rw [zZ];rintro ⟨b,i⟩ hp;have hb:Bs[i]?=some b:=by
  have:=List.mem_zipIdx hp;simp at this;rw [zy];exact ⟨this.1,this.2.symm⟩
 obtain ⟨h1,h2,h3⟩:=h i b hb;simp only [zf,qK,Bool.not_eq_true',decide_eq_true_eq];refine ⟨⟨?_,?_⟩,?_⟩
 ·cases hr:xJ ops ops.size k b with
  |false=>exact .inl rfl
  |true=>exact .inr (h1 hr)
 ·cases hr:xJ ops ops.size b k with
  |false=>exact .inl rfl
  |true=>exact .inr (h2 hr)
 ·by_cases e:b=k
  ·exact .inr (h3 e)
  ·exact .inl e
section
variable {P:Program} {ops:Array Oper}
theorem wpAny_sg {m:Nat} {Ss:List GS} {Bs:List Nat} {SL:List (List Nat)} {Cs:List ((Nat->Value)->World->Prop)} (hB:sgB ops m Ss Bs SL=true) {Q:Exit->Act->World->Prop} (a0:Act)
  (step:∀ k o,k<m->ops[k]?=some o->∀ s,s∈SL.getD k []->∀ vals w,(∀ i∈(gAt Ss k).D,vk Ss vals i)->cAt Cs s vals w ->
   StStep P ops o (qe ops vals (qt ops k) a0) w fun v w'=>(gAt Ss k).R v ((gAt Ss k).D.map vals)∧cAt Cs (if Bs.contains k then s+1 else s) (upV vals k v) w')
  (fin:∀ vals w,(∀ i,i<m->vk Ss vals i)->cAt Cs Bs.length vals w->wpAny P .any ops Q (ops.size-m) (jI ops.size m) (qe ops vals (zl m) a0) w) :
  ∀ (d:Nat) (order:List Nat) (listed:Array Bool) (vals:Nat->Value) (s:Nat) (w:World),d+order.length=m->order.Nodup->(∀ i∈order,i<m)->listed.size=ops.size ->
   (∀ j,j<ops.size->listed[j]?=some (decide (j∈order)))->s<=Bs.length->(∀ i b,Bs[i]?=some b->(b∈order↔i<s))->cAt Cs s vals w->(∀ i∈order,vk Ss vals i) ->
   (∀ k∈order,∀ o,ops[k]?=some o->∀ e∈o.after,Region.binds .any e=true->e.on∈order) ->
   wpAny P .any ops Q (ops.size-order.length) listed (qe ops vals order a0) w:=by
 simp only [sgB,zf] at hB;obtain ⟨⟨⟨⟨hB1,hBD⟩,hBm⟩,hBc⟩,hBf⟩:=hB;have hok:kD ops m []:=vI hB1;have hSD:∀ k,k<m->∀ i∈(gAt Ss k).D,xJ ops ops.size k i=true:=fun k hk i hi=>by
  have:=zZ.1 (zZ.1 hBD k (zo.2 hk)) i hi;simp only [zf] at this;exact this.2
 have hbm:∀ (i b:Nat),Bs[i]?=some b->b<m:=fun i b hb=>by simpa using zZ.1 hBm b (zc hb)
 have hchain:∀ (i j b c:Nat),i<j->Bs[i]?=some b->Bs[j]?=some c->xJ ops ops.size c b=true:=fun i j b c hij hb hc=>by
  have hj:j<Bs.length:=(zy.1 hc).1;have:=zZ.1 (zZ.1 hBc j (zo.2 hj)) i (zo.2 hij);simpa [ze,hb,hc] using this
 have hfeas:∀ k s,k<m->s<=Bs.length->Xm ops Bs k s=true->s∈SL.getD k []:=fun k s hk hs h=>by
  have:=zZ.1 (zZ.1 hBf k (zo.2 hk)) s (zo.2 (by omega));simpa [h] using this
 intro d;induction d with
 |zero =>
  intro order listed vals s w hd hn hlt hsz hl hs hst hg hR hC;have hlen:order.length=m:=(by omega);have hall:=(kJ hn hlt).2 hlen;have e1:listed=jI ops.size m:=by
   apply yE;intro j;by_cases hj:j<ops.size
   ·rw [hl j hj,Xn _ _ _ hj];congr 1
    have:(j∈order)↔j<m:=⟨hlt j,hall j⟩
    simp [this]
   ·rw [yq (by omega),yq (by rw [Yp];omega)]
  have e2:qe ops vals order a0=qe ops vals (zl m) a0:=by
   have ht:(qe ops vals order a0).tmps=(qe ops vals (zl m) a0).tmps:=by
    apply yE;intro t;exact Qb vals t (fun i j=>hok.uniq i j t) _ _ _ fun i _=>by rw [zo];exact ⟨hlt i,hall i⟩
   have hdf:(qe ops vals order a0).defers=(qe ops vals (zl m) a0).defers:=(by rw [xw,xw]);generalize qe ops vals order a0=x at *;generalize qe ops vals (zl m) a0=y at *;cases x;cases y;simp only at ht hdf;subst ht hdf;rfl
  rw [e1,e2,hlen];have hsl:s=Bs.length:=by
   rcases zD s Bs.length with h|h
   ·obtain ⟨b,hb⟩:∃ b,Bs[s]?=some b:=⟨_,zg h⟩
    have:=(hst s b hb).1 (hall b (hbm s b hb));omega
   ·omega
  rw [hsl] at hg;exact fin vals w (fun i hi=>hR i (hall i hi)) hg
 |succ d ih =>
  intro order listed vals s w hd hn hlt hsz hl hs hst hg hR hC;have hm:m<=ops.size:=hok.le;obtain ⟨f,hf⟩:∃ f,ops.size-order.length=f+1:=⟨ops.size-order.length-1,by omega⟩
  rw [hf];have hex:∃ i,i<m∧i ∉ order:=Classical.byContradiction fun h=>by
   have:∀ i,i<m->i∈order:=fun i hi=>Classical.byContradiction fun h'=>h ⟨i,hi,h'⟩
   have:=ZB this;omega
  have hT:∀ j,listed.getD j false=true->j∈order:=fun j hj=>by
   by_cases hj2:j<ops.size
   ·rw [q8,hl j hj2] at hj;simpa using hj
   ·rw [q8,yq (by omega)] at hj;simp at hj
  have hF:∀ j,j<ops.size->listed.getD j true=false->j ∉ order:=fun j hj2 hj=>by
   rw [q8,hl j hj2] at hj;simpa using hj
  refine ⟨fun h0=>?_,fun j hj=>?_⟩
  ·exfalso;obtain ⟨i,hi,hno⟩:=hex;have:∀ i,i<m->i ∉ order->False:=fun i=>by
    induction i using k7 with
    |_ i ihi =>
     intro hi hno;obtain ⟨o,ho⟩:∃ o,ops[i]?=some o:=⟨ops[i],by simp⟩
     have hr:i∈Region.ready .any ops listed:=mem_ready.2 ⟨by rw [q8,hl i (by omega)];simp [hno],o,ho,fun e he hb=>by
      have hlt':=hok.back i o ho e he hb;by_cases hin:e.on∈order
      ·rw [q8,hl _ (by omega)];simp [hin]
      ·exact (ihi e.on hlt' (by omega) hin).elim⟩
     rw [h0] at hr;cases hr
   exact this i hi hno
  ·obtain ⟨hun,o,ho,hall⟩:=mem_ready.1 hj;have hjn:j<ops.size:=(xk.1 ho).1;have hjo:j ∉ order:=hF j hjn hun;have hjm:j<m:=by
    rcases zD j m with h|h
    ·exact h
    ·obtain ⟨i,hi,hno⟩:=hex;exact absurd (vw hC ops.size j i o ho (fun e he hb=>hT e.on (hall e he hb)) (hok.tail j o ho h i (by omega) (by simp))) hno
   have hreach:∀ i,xJ ops ops.size j i=true->i∈order:=fun i h=>vw hC ops.size j i o ho (fun e he hb=>hT e.on (hall e he hb)) h
   have hreach':∀ k∈order,∀ i,xJ ops ops.size k i=true->i∈order:=fun k hk i h=>by
    have hkm:=hlt k hk;obtain ⟨ok,hok'⟩:∃ ok,ops[k]?=some ok:=⟨ops[k],by simp⟩
    exact vw hC ops.size k i ok hok' (hC k hk ok hok') h
   have hdeps:∀ i∈qt ops j,i∈order:=fun i hi=>by
    obtain ⟨e,he,hb,hon⟩:=hok.deps j o ho i hi;exact hT i (by rw [← hon];exact hall e he hb)
   obtain ⟨hex1,hw1⟩:=vG hok ho vals order a0 hdeps (KT hC hjo);have hinD:∀ i∈(gAt Ss j).D,i∈order:=fun i hi=>hreach i (hSD j hjm i hi)
   have hDj:∀ i∈(gAt Ss j).D,i≠j:=fun i hi e=>hjo (e ▸ hinD i hi)
   have hfe0:Xm ops Bs j s=true:=Vq fun i b hb=>by
    refine ⟨fun h=>(hst i b hb).1 (hreach b h),fun h=>?_,fun h=>?_⟩
    ·rcases zD i s with hi|hi
     ·exact absurd (hreach' b ((hst i b hb).2 hi) j h) hjo
     ·exact hi
    ·subst h;rcases yG i s with hi|hi|hi
     ·exact absurd ((hst i b hb).2 hi) hjo
     ·exact hi.symm
     ·have hil:i<Bs.length:=(zy.1 hb).1;obtain ⟨c,hc⟩:∃ c,Bs[s]?=some c:=⟨_,zg (by omega)⟩
      have:=(hst s c hc).1 (hreach c (hchain s i c b hi hc hb));omega
   have hfe:s∈SL.getD j []:=hfeas j s hjm hs hfe0;have hstep:=step j o hjm ho s hfe vals w (fun i hi=>hR i (hinD i hi)) hg;have next:∀ v w',(gAt Ss j).R v ((gAt Ss j).D.map vals)->cAt Cs (if Bs.contains j then s+1 else s) (upV vals j v) w' ->
     wpAny P .any ops Q f (listed.setIfInBounds j true) ((qe ops vals order a0).put o.dst v) w':=fun v w' hRv hst'=>by
    have hne:∀ i∈order,upV vals j v i=vals i:=fun i hi=>upV_ne vals v fun e=>hjo (e ▸ hi)
    have hmapD:∀ k,k=j∨k∈order->(gAt Ss k).D.map (upV vals j v)=(gAt Ss k).D.map vals:=fun k hk=>List.map_congr_left fun i hi=>by
     rcases hk with rfl|hk
     ·exact hne i (hinD i hi)
     ·exact hne i (hreach' k hk i (hSD k (hlt k hk) i hi))
    have hp:(qe ops vals order a0).put o.dst v=qe ops (upV vals j v) (order++[j]) a0:=by
     rw [vQ,ww order a0 hne];simp [qW,ho,Jl]
    rw [hp];have hf':f=ops.size-(order++[j]).length:=(by simp;omega);rw [hf'];have hnew:(if Bs.contains j then s+1 else s)<=Bs.length∧∀ i b,Bs[i]?=some b->(b∈order++[j]↔i<if Bs.contains j then s+1 else s):=by
     by_cases hbj:j∈Bs
     ·obtain ⟨t,ht⟩:=List.getElem?_of_mem hbj;have hts:t=s:=by
       have hfe2:=hfe0;unfold Xm at hfe2;rw [zZ] at hfe2;have:=hfe2 (j,t) (by rw [yj];exact ⟨t,by simp [List.getElem?_zipIdx,ht]⟩);simp only [zf,qK,decide_eq_true_eq] at this;rcases this.2 with h|h
       ·exact absurd rfl h
       ·exact h.symm
      subst hts;have htl:t<Bs.length:=(zy.1 ht).1;simp only [List.contains_eq_mem,hbj,decide_true,if_true];refine ⟨by omega,fun i b hb=>?_⟩;rw [zt,hst i b hb];simp only [zV];constructor
      ·rintro (h|h)
       ·omega
       ·subst h;rcases yG i t with hi|hi|hi
        ·omega
        ·omega
        ·have:=hreach _ (hchain t i b b hi ht hb);exact absurd this hjo
      ·intro h;rcases zD i t with hi|hi
       ·exact .inl hi
       ·have:i=t:=by omega
        subst this;exact .inr (yz.inj (hb.symm.trans ht))
     ·simp only [List.contains_eq_mem,hbj,decide_false,if_false,kQ];refine ⟨hs,fun i b hb=>?_⟩;rw [zt,hst i b hb];simp only [zV];exact ⟨fun h=>by
       rcases h with h|h
       ·exact h
       ·subst h;exact absurd (zc hb) hbj,.inl⟩
    refine ih (order++[j]) _ _ _ w' (by simp;omega) (jr.2 ⟨hn,by simp,fun x hx y hy=>by simp at hy;rintro rfl;exact hjo (hy ▸ hx)⟩)
     (fun i hi=>?_) (by simpa using hsz) (fun i hi=>?_) hnew.1 hnew.2 hst' (fun i hi=>?_) (fun k hk o' ho' e he hb=>?_)
    ·simp at hi;rcases hi with hi|hi
     ·exact hlt i hi
     ·omega
    ·by_cases hij:i=j
     ·subst hij;rw [ZT];simp [show i<listed.size by omega]
     ·rw [wT (Ne.symm hij),hl i hi];simp [hij]
    ·simp at hi;have:vk Ss (upV vals j v) i=if i=j then (gAt Ss j).R v ((gAt Ss j).D.map vals) else vk Ss vals i:=by
      by_cases hij:i=j
      ·subst hij;unfold vk;rw [hmapD i (.inl rfl),Jl];simp
      ·rcases hi with hi|hi
       ·unfold vk;rw [hmapD i (.inr hi),upV_ne vals v hij];simp [hij]
       ·exact absurd hi hij
     rw [this];split
     ·exact hRv
     ·rename_i hij;rcases hi with hi|hi
      ·exact hR i hi
      ·exact absurd hi hij
    ·simp at hk ⊢;rcases hk with hk|hk
     ·exact .inl (hC k hk o' ho' e he hb)
     ·subst hk;obtain rfl:o'=o:=yz.inj (ho'.symm.trans ho);exact .inl (hT e.on (hall e he hb))
   have hs:=hstep;unfold StStep at hs;unfold wpOp;simp only [ho];rw [hw1];split
   ·rename_i hw;rw [if_pos hw] at hs;refine .inl ?_;unfold Jj at hs;unfold Oper.wp;rw [hex1];generalize (execOp (qe ops vals (qt ops j) a0).eval o).run P w=r at hs;cases r with
    |ok n w' =>
     cases n <;> simp only [Zi] at hs <;> simp only [Oper.upon]
     case value u=>exact next _ _ hs.1 hs.2
     case skip=>exact next _ _ hs.1 hs.2
     case enter f args=>exact hs.mono fun e w'' ⟨v,he,h1,h2⟩=>by subst he;exact next _ _ h1 h2
    |halt x w'=>simp only [Zi] at hs
   ·rename_i hw;rw [if_neg hw] at hs;exact next _ _ hs.1 hs.2
theorem Wk {id:Nat} {Q:Exit->Act->World->Prop} {a:Act} {w:World} {l:List Oper} (m:Nat) (Ss:List GS) (Bs:List Nat) (SL:List (List Nat)) (Cs:List ((Nat->Value)->World->Prop)) (hm:P.follows .mixedOrders=true)
  (hB:(sgB l.toArray m Ss Bs SL&&Region.seqB .any l.toArray (l.length-m) m (jI l.length m))=true) (H:cAt Cs 0 (fun _=>undef) w.drew)
  (step:∀ k o,k<m->l[k]?=some o->∀ s,s∈SL.getD k []->∀ vals w,(∀ i∈(gAt Ss k).D,vk Ss vals i)->cAt Cs s vals w ->
   StStep P l.toArray o (qe l.toArray vals (qt l.toArray k) a) w fun v w'=>(gAt Ss k).R v ((gAt Ss k).D.map vals)∧cAt Cs (if Bs.contains k then s+1 else s) (upV vals k v) w')
  (fin:∀ vals w,(∀ i,i<m->vk Ss vals i)->cAt Cs Bs.length vals w->wpList P l.toArray Q (l.drop m) (qe l.toArray vals (zl m) a) w):(Code.region id l.toArray true).wp P Q a w:=by
 simp only [zf] at hB;have hB':=hB.1;have hok:kD l.toArray m []:=by
  simp only [sgB,zf] at hB';exact vI hB'.1.1.1.1
 have hle:m<=l.length:=(by simpa using hok.le);refine wp_region_any hm ?_;have:=wpAny_sg (P:=P) (Q:=Q) hB.1 a (fun k o hk ho=>step k o hk (by simpa using ho)) (fun vals w' hR hst=>by
  have:=wpAny_of_seq (P:=P) (md:=.any) (Q':=Q) (l.drop m) m (jI l.length m) (qe l.toArray vals (zl m) a) w' (fun j=>by simp [xN]) (by simpa using hB.2) (fin vals w' hR hst);simpa using this) m [] (YY l.length false) (fun _=>undef) 0 { w with drawn:=w.drawn+1 } (by simp) (by simp) (by simp) (by simp) (fun j hj=>by
   have hj':j<l.length:=(by simpa using hj);simp [hj']) (by simp) (by simp) (by simpa using H) (by simp) (by simp)
 simpa [qe] using this
def kY (Ss:List GS) (vals:Nat->Value):List Nat->Prop
 |[]=>True
 |i::is=>vk Ss vals i∧kY Ss vals is
theorem Q6 {Ss:List GS} {vals:Nat->Value}:∀ {is:List Nat},(∀ i∈is,vk Ss vals i)->kY Ss vals is
 |[],_=>trivial
 |i::is,h=>⟨h i (by simp),Q6 fun j hj=>h j (by simp [hj])⟩
def Kk (P:Program) (ops:Array Oper) (a:Act) (Ss:List GS) (Cs:List ((Nat->Value)->World->Prop)) (k:Nat) (d:List (Nat×Tmp)) (g:GS) (o:Oper) (big:Bool):List Nat->Prop
 |[]=>True
 |s::ss=>(∀ vals w,kY Ss vals g.D->cAt Cs s vals w->StStep P ops o (xC d vals a) w fun v w'=>g.R v (g.D.map vals)∧cAt Cs (if big then s+1 else s) (upV vals k v) w')∧Kk P ops a Ss Cs k d g o big ss
theorem Yt {a:Act} {Ss:List GS} {Cs:List ((Nat->Value)->World->Prop)} {k:Nat} {d:List (Nat×Tmp)} {g:GS} {o:Oper} {big:Bool}:∀ {ss:List Nat},Kk P ops a Ss Cs k d g o big ss->∀ s∈ss,∀ vals w,kY Ss vals g.D->cAt Cs s vals w->StStep P ops o (xC d vals a) w fun v w'=>g.R v (g.D.map vals)∧cAt Cs (if big then s+1 else s) (upV vals k v) w'
 |[],_,s,hs=>by cases hs
 |s0::ss,h,s,hs=>by
  rcases zG.1 hs with rfl|hs
  ·exact h.1
  ·exact Yt h.2 s hs
def ZW (P:Program) (ops:Array Oper) (a:Act) (Ss0:List GS) (Cs:List ((Nat->Value)->World->Prop)) (Bs:List Nat):Nat->List (List (Nat×Tmp))->List GS->List (List Nat)->List Oper->Prop
 |k,d::DS,g::Ss,ss::SL,o::rest=>Kk P ops a Ss0 Cs k d g o (Bs.contains k) ss∧ZW P ops a Ss0 Cs Bs (k+1) DS Ss SL rest
 |_,_,_,_,[]=>True
 |_,_,_,_,_=>False
theorem Qx {a:Act} {Ss0:List GS} {Cs:List ((Nat->Value)->World->Prop)} {Bs:List Nat}:∀ {l:List Oper} {k0:Nat} {DS:List (List (Nat×Tmp))} {Ss:List GS} {SL:List (List Nat)},ZW P ops a Ss0 Cs Bs k0 DS Ss SL l->∀ (k:Nat) (o:Oper),l[k]?=some o ->
  ∃ d g ss,DS[k]?=some d∧Ss[k]?=some g∧SL[k]?=some ss∧Kk P ops a Ss0 Cs (k0+k) d g o (Bs.contains (k0+k)) ss
 |[],_,_,_,_,_,k,o,h=>by simp at h
 |_::_,_,[],_,_,hs,_,_,_=>by simp [ZW] at hs
 |_::_,_,_::_,[],_,hs,_,_,_=>by simp [ZW] at hs
 |_::_,_,_::_,_::_,[],hs,_,_,_=>by simp [ZW] at hs
 |o'::rest,k0,d::DS,g::Ss,ss::SL,hs,0,o,h=>by
  simp at h;subst h;exact ⟨d,g,ss,rfl,rfl,rfl,hs.1⟩
 |o'::rest,k0,d::DS,g::Ss,ss::SL,hs,k+1,o,h=>by
  have:=Qx hs.2 k o (by simpa using h);rw [show k0+(k+1)=k0+1+k by omega];simpa using this
def sgxB (l:List Oper) (m:Nat) (Ss:List GS) (Bs:List Nat) (SL:List (List Nat)) (DS:List (List (Nat×Tmp))) (S:List (Nat×Tmp)):Bool :=
 sgB l.toArray m Ss Bs SL&&Region.seqB .any l.toArray (l.length-m) m (jI l.length m)&&kO l.toArray S&&decide (S.map (·.1)=(zl m).filter fun i=>(qW l.toArray i).isSome) &&
 DS.all (kO l.toArray)&&decide (DS.map (fun d=>d.map (·.1))=(zl m).map (qt l.toArray))
theorem wl {id:Nat} {Q:Exit->Act->World->Prop} {a:Act} {w:World} {l:List Oper} (m:Nat) (Ss:List GS) (Bs:List Nat) (SL:List (List Nat)) (Cs:List ((Nat->Value)->World->Prop)) (DS:List (List (Nat×Tmp))) (S:List (Nat×Tmp)) (hm:P.follows .mixedOrders=true)
  (hB:sgxB l m Ss Bs SL DS S=true) (H:cAt Cs 0 (fun _=>undef) w.drew) (step:ZW P l.toArray a Ss Cs Bs 0 DS Ss SL (l.take m))
  (fin:∀ vals w,kY Ss vals (zl m)->cAt Cs Bs.length vals w->wpList P l.toArray Q (l.drop m) (xC S vals a) w):(Code.region id l.toArray true).wp P Q a w:=by
 simp only [sgxB,zf,decide_eq_true_eq] at hB;obtain ⟨⟨⟨⟨⟨h1,h2⟩,h3⟩,h4⟩,h5⟩,h6⟩:=hB;refine Wk m Ss Bs SL Cs hm (by rw [h1,h2];rfl) H (fun k o hk ho s hs vals w hD hst=>?_) (fun vals w hR hst=>?_)
 ·obtain ⟨d,g,ss,hd,hg,hss,hh⟩:=Qx step k o (by rw [wZ,if_pos hk];exact ho);have hdep:d.map (·.1)=qt l.toArray k:=by
   have:=congrArg (·[k]?) h6;simp only [zq,hd,xj] at this;rw [xP hk] at this;simpa using this
  have hslots:kO l.toArray d=true:=zZ.1 h5 d (zc hd);have hgk:gAt Ss k=g:=(by simp [gAt,List.getD,hg]);have hsk:SL.getD k []=ss:=(by simp [List.getD,hss]);rw [qA] at hh;have:=Yt hh s (hsk ▸ hs) vals w (Q6 (by rw [← hgk];exact hD)) hst;rw [jB vals d a hslots,hdep] at this;rw [hgk];exact this
 ·have:=fin vals w (Q6 fun i hi=>hR i (zo.1 hi)) hst;rwa [jB vals S a h3,h4,← jV] at this
end
end
section
open Go.RowKit
def rowsT:List (Nat×Nat):=[(27,4),(33,4),(34,4),(37,8),(58,2),(79,2),(81,3),(93,1),(104,2),(122,8),(127,64)]
def cellsT:List Nat:=[2,3,4,5,9,12,20,21,23,24,25,28,29,32,35,53,56,64,75,76,77,85,90,102,103,114,116,117,118,120,128,136,157,160,172]
def Kj:List (Nat×Value):=[(2,.int .i64 0),(3,.int .i64 0),(4,.bool false),(5,.int .u8 0),(9,.string ⟨#[]⟩),(12,.int .u64 0),(20,.nilIface),(21,.int .i32 0),(23,.slice none 0 0),(24,.slice none 0 0),(25,.slice none 0 0),(27,.agg #[.int .i64 0,.slice none 0 0,.slice none 0 0,.slice none 0 0]),(28,.nilIface),(29,.nilIface),(32,.int .u64 0),(33,.agg #[.int .u64 0,.int .u64 0,.int .u64 0,.int .u64 0]),(34,.agg #[.int .u64 0,.int .u64 0,.int .u64 0,.int .u64 0]),(35,.slice none 0 0),(37,.agg #[.int .i64 0,.int .u64 0,.int .u64 0,.int .u64 0,.int .u64 0,.int .i64 0,.int .i64 0,.slice none 0 0]),(53,.slice none 0 0),(56,.int .i64 0),(58,.agg #[.string ⟨#[]⟩,.int .i64 0]),(64,.pointer none),(75,.pointer none),(76,.slice none 0 0),(77,.slice none 0 0),(79,.agg #[.slice none 0 0,.slice none 0 0]),(81,.agg #[.bool false,.int .u64 0,.int .u64 0]),(85,.map none),(90,.pointer none),(93,.agg #[.int .i64 0]),(102,.map none),(103,.slice none 0 0),(104,.agg #[.int .i64 0,.int .i64 0]),(114,.pointer none),(116,.map none),(117,.slice none 0 0),(118,.map none),(120,.slice none 0 0),(122,.agg #[.int .u64 0,.int .u64 0,.int .u64 0,.int .u64 0,.int .u64 0,.int .u64 0,.int .u64 0,.int .u64 0]),(127,.agg #[.int .u8 0,.int .u8 0,.int .u8 0,.int .u8 0,.int .u8 0,.int .u8 0,.int .u8 0,.int .u8 0,.int .u8 0,.int .u8 0,.int .u8 0,.int .u8 0,.int .u8 0,.int .u8 0,.int .u8 0,.int .u8 0,.int .u8 0,.int .u8 0,.int .u8 0,.int .u8 0,.int .u8 0,.int .u8 0,.int .u8 0,.int .u8 0,.int .u8 0,.int .u8 0,.int .u8 0,.int .u8 0,.int .u8 0,.int .u8 0,.int .u8 0,.int .u8 0,.int .u8 0,.int .u8 0,.int .u8 0,.int .u8 0,.int .u8 0,.int .u8 0,.int .u8 0,.int .u8 0,.int .u8 0,.int .u8 0,.int .u8 0,.int .u8 0,.int .u8 0,.int .u8 0,.int .u8 0,.int .u8 0,.int .u8 0,.int .u8 0,.int .u8 0,.int .u8 0,.int .u8 0,.int .u8 0,.int .u8 0,.int .u8 0,.int .u8 0,.int .u8 0,.int .u8 0,.int .u8 0,.int .u8 0,.int .u8 0,.int .u8 0,.int .u8 0]),(128,.int .u64 0),(136,.int .u32 0),(157,.pointer none),(160,.pointer none),(172,.pointer none)]
theorem Je:(rowsT.all fun p=>wy z6 p.1 p.2)=true:=by kernel_rfl
theorem Vg:(cellsT.all fun p=>wG z6 p)=true:=by kernel_rfl
theorem z_2 (w:World):(zeroValue 2).run z6 w=.ok (.int .i64 0) w:=by kernel_rfl
theorem z_3 (w:World):(zeroValue 3).run z6 w=.ok (.int .i64 0) w:=by kernel_rfl
theorem z_4 (w:World):(zeroValue 4).run z6 w=.ok (.bool false) w:=by kernel_rfl
theorem z_5 (w:World):(zeroValue 5).run z6 w=.ok (.int .u8 0) w:=by kernel_rfl
theorem z_9 (w:World):(zeroValue 9).run z6 w=.ok (.string ⟨#[]⟩) w:=by kernel_rfl
theorem z_12 (w:World):(zeroValue 12).run z6 w=.ok (.int .u64 0) w:=by kernel_rfl
theorem z_20 (w:World):(zeroValue 20).run z6 w=.ok (.nilIface) w:=by kernel_rfl
theorem z_21 (w:World):(zeroValue 21).run z6 w=.ok (.int .i32 0) w:=by kernel_rfl
theorem z_23 (w:World):(zeroValue 23).run z6 w=.ok (.slice none 0 0) w:=by kernel_rfl
theorem z_24 (w:World):(zeroValue 24).run z6 w=.ok (.slice none 0 0) w:=by kernel_rfl
theorem z_25 (w:World):(zeroValue 25).run z6 w=.ok (.slice none 0 0) w:=by kernel_rfl
theorem z_27 (w:World):(zeroValue 27).run z6 w=.ok (.agg #[.int .i64 0,.slice none 0 0,.slice none 0 0,.slice none 0 0]) w:=by kernel_rfl
theorem z_28 (w:World):(zeroValue 28).run z6 w=.ok (.nilIface) w:=by kernel_rfl
theorem z_29 (w:World):(zeroValue 29).run z6 w=.ok (.nilIface) w:=by kernel_rfl
theorem z_32 (w:World):(zeroValue 32).run z6 w=.ok (.int .u64 0) w:=by kernel_rfl
theorem z_33 (w:World):(zeroValue 33).run z6 w=.ok (.agg #[.int .u64 0,.int .u64 0,.int .u64 0,.int .u64 0]) w:=by kernel_rfl
theorem z_34 (w:World):(zeroValue 34).run z6 w=.ok (.agg #[.int .u64 0,.int .u64 0,.int .u64 0,.int .u64 0]) w:=by kernel_rfl
theorem z_35 (w:World):(zeroValue 35).run z6 w=.ok (.slice none 0 0) w:=by kernel_rfl
theorem z_37 (w:World):(zeroValue 37).run z6 w=.ok (.agg #[.int .i64 0,.int .u64 0,.int .u64 0,.int .u64 0,.int .u64 0,.int .i64 0,.int .i64 0,.slice none 0 0]) w:=by kernel_rfl
theorem z_53 (w:World):(zeroValue 53).run z6 w=.ok (.slice none 0 0) w:=by kernel_rfl
theorem z_56 (w:World):(zeroValue 56).run z6 w=.ok (.int .i64 0) w:=by kernel_rfl
theorem z_58 (w:World):(zeroValue 58).run z6 w=.ok (.agg #[.string ⟨#[]⟩,.int .i64 0]) w:=by kernel_rfl
theorem z_64 (w:World):(zeroValue 64).run z6 w=.ok (.pointer none) w:=by kernel_rfl
theorem z_75 (w:World):(zeroValue 75).run z6 w=.ok (.pointer none) w:=by kernel_rfl
theorem z_76 (w:World):(zeroValue 76).run z6 w=.ok (.slice none 0 0) w:=by kernel_rfl
theorem z_77 (w:World):(zeroValue 77).run z6 w=.ok (.slice none 0 0) w:=by kernel_rfl
theorem z_79 (w:World):(zeroValue 79).run z6 w=.ok (.agg #[.slice none 0 0,.slice none 0 0]) w:=by kernel_rfl
theorem z_81 (w:World):(zeroValue 81).run z6 w=.ok (.agg #[.bool false,.int .u64 0,.int .u64 0]) w:=by kernel_rfl
theorem z_85 (w:World):(zeroValue 85).run z6 w=.ok (.map none) w:=by kernel_rfl
theorem z_90 (w:World):(zeroValue 90).run z6 w=.ok (.pointer none) w:=by kernel_rfl
theorem z_93 (w:World):(zeroValue 93).run z6 w=.ok (.agg #[.int .i64 0]) w:=by kernel_rfl
theorem z_102 (w:World):(zeroValue 102).run z6 w=.ok (.map none) w:=by kernel_rfl
theorem z_103 (w:World):(zeroValue 103).run z6 w=.ok (.slice none 0 0) w:=by kernel_rfl
theorem z_104 (w:World):(zeroValue 104).run z6 w=.ok (.agg #[.int .i64 0,.int .i64 0]) w:=by kernel_rfl
theorem z_114 (w:World):(zeroValue 114).run z6 w=.ok (.pointer none) w:=by kernel_rfl
theorem z_116 (w:World):(zeroValue 116).run z6 w=.ok (.map none) w:=by kernel_rfl
theorem z_117 (w:World):(zeroValue 117).run z6 w=.ok (.slice none 0 0) w:=by kernel_rfl
theorem z_118 (w:World):(zeroValue 118).run z6 w=.ok (.map none) w:=by kernel_rfl
theorem z_120 (w:World):(zeroValue 120).run z6 w=.ok (.slice none 0 0) w:=by kernel_rfl
theorem z_122 (w:World):(zeroValue 122).run z6 w=.ok (.agg #[.int .u64 0,.int .u64 0,.int .u64 0,.int .u64 0,.int .u64 0,.int .u64 0,.int .u64 0,.int .u64 0]) w:=by kernel_rfl
theorem z_127 (w:World):(zeroValue 127).run z6 w=.ok (.agg #[.int .u8 0,.int .u8 0,.int .u8 0,.int .u8 0,.int .u8 0,.int .u8 0,.int .u8 0,.int .u8 0,.int .u8 0,.int .u8 0,.int .u8 0,.int .u8 0,.int .u8 0,.int .u8 0,.int .u8 0,.int .u8 0,.int .u8 0,.int .u8 0,.int .u8 0,.int .u8 0,.int .u8 0,.int .u8 0,.int .u8 0,.int .u8 0,.int .u8 0,.int .u8 0,.int .u8 0,.int .u8 0,.int .u8 0,.int .u8 0,.int .u8 0,.int .u8 0,.int .u8 0,.int .u8 0,.int .u8 0,.int .u8 0,.int .u8 0,.int .u8 0,.int .u8 0,.int .u8 0,.int .u8 0,.int .u8 0,.int .u8 0,.int .u8 0,.int .u8 0,.int .u8 0,.int .u8 0,.int .u8 0,.int .u8 0,.int .u8 0,.int .u8 0,.int .u8 0,.int .u8 0,.int .u8 0,.int .u8 0,.int .u8 0,.int .u8 0,.int .u8 0,.int .u8 0,.int .u8 0,.int .u8 0,.int .u8 0,.int .u8 0,.int .u8 0]) w:=by kernel_rfl
theorem z_128 (w:World):(zeroValue 128).run z6 w=.ok (.int .u64 0) w:=by kernel_rfl
theorem z_136 (w:World):(zeroValue 136).run z6 w=.ok (.int .u32 0) w:=by kernel_rfl
theorem z_157 (w:World):(zeroValue 157).run z6 w=.ok (.pointer none) w:=by kernel_rfl
theorem z_160 (w:World):(zeroValue 160).run z6 w=.ok (.pointer none) w:=by kernel_rfl
theorem z_172 (w:World):(zeroValue 172).run z6 w=.ok (.pointer none) w:=by kernel_rfl
theorem zerosT_ok:∀ p∈Kj,∀ w:World,(zeroValue p.1).run z6 w=.ok p.2 w:=by
 simp only [Kj,zG,List.not_mem_nil,or_false,forall_eq_or_imp,forall_eq];exact ⟨z_2,z_3,z_4,z_5,z_9,z_12,z_20,z_21,z_23,z_24,z_25,z_27,z_28,z_29,z_32,z_33,z_34,z_35,z_37,z_53,z_56,z_58,z_64,z_75,z_76,z_77,z_79,z_81,z_85,z_90,z_93,z_102,z_103,z_104,z_114,z_116,z_117,z_118,z_120,z_122,z_127,z_128,z_136,z_157,z_160,z_172⟩
def fieldsT:List ((Nat×Nat)×(Nat×Nat)):=[((27,0),(3,0)),((27,1),(23,1)),((27,2),(24,2)),((27,3),(25,3)),((37,0),(3,0)),((37,1),(34,1)),((37,2),(3,5)),((37,3),(3,6)),((37,4),(35,7)),((58,0),(9,0)),((58,1),(3,1)),((79,0),(76,0)),((79,1),(77,1)),((81,0),(4,0)),((81,1),(32,1)),((81,2),(32,2)),((93,0),(3,0))]
def KC (P:Program) (t f:Nat):Option (Nat×Nat):=match P.underlying t with|some (.struct fs)=>(fs[f]?).map fun x=>(x.type,x.offset)|_=>none
theorem JJ:(fieldsT.all fun p=>KC z6 p.1.1 p.1.2==some p.2)=true:=by kernel_rfl
def wK (t n:Nat):Bool:=rowsT.any fun p=>ve p.1 t&&ve p.2 n
def ja (t:Nat):Bool:=cellsT.any fun p=>ve p t
def Yw {α:Type} (t:Nat):List (Nat×α)->Option α
 |[]=>none
 |p::l=>bif ve p.1 t then some p.2 else Yw t l
def szO (t:Nat):Option Nat:=Yw t rowsT
def zO (t:Nat):Option Value:=Yw t Kj
theorem kv {α:Type} {t:Nat} {x:α}:∀ {l:List (Nat×α)},Yw t l=some x->(t,x)∈l
 |[],h=>by cases h
 |p::l,h=>by
  unfold Yw at h;cases hb:ve p.1 t with
  |true =>
   rw [hb] at h;simp only [cond_true,yz.injEq] at h;have:=x7 hb;subst this h;exact zS
  |false =>
   rw [hb] at h;exact qv _ (kv h)
theorem yR {t n:Nat} (h:wK t n=true):wy z6 t n=true:=by
 obtain ⟨p,hp,hq⟩:=List.any_eq_true.1 h;have:=zZ.1 Je p hp;simp only [zf] at hq;obtain rfl:=x7 hq.1;obtain rfl:=x7 hq.2;exact this
theorem Kg {t n:Nat} (h:szO t=some n):wy z6 t n=true:=by
 have:=zZ.1 Je _ (kv h);exact this
theorem xz {t:Nat} (h:ja t=true):wG z6 t=true:=by
 obtain ⟨p,hp,hq⟩:=List.any_eq_true.1 h;have:=zZ.1 Vg p hp;obtain rfl:=x7 hq;exact this
theorem YV {t:Nat} {z:Value} (h:zO t=some z) (w:World):(zeroValue t).run z6 w=.ok z w:=zerosT_ok _ (kv h) w
theorem kM {P:Program} {t n:Nat} (h:wy P t n=true):(P.info? t).map (·.size)=some n:=by
 unfold wy at h;simp only [zf,beq_iff_eq] at h;exact h.2
theorem Qq {P:Program} {t:Nat} (h:wG P t=true):(P.info? t).map (·.size)=some 1:=by
 unfold wG at h;simp only [zf,beq_iff_eq] at h;exact h.2
def QB:List Value->Bool
 |[]=>true
 |v::l=>v.oneCell'&&QB l
theorem ZI {cs:Array Value} (h:QB cs.toList=true):cs.all (·.oneCell')=true:=by
 have:∀ l:List Value,QB l=true->l.all (·.oneCell')=true:=fun l=>by
  induction l with
  |nil=>intro _;rfl
  |cons v l ih=>intro h;simp only [QB,zf] at h;simp only [List.all_cons,zf];exact ⟨h.1,ih h.2⟩
 rw [← Array.all_toList];exact this _ h
def KH (t f:Nat):List ((Nat×Nat)×(Nat×Nat))->Option (Nat×Nat)
 |[]=>none
 |p::l=>bif ve p.1.1 t&&ve p.1.2 f then some p.2 else KH t f l
def fldO (t f:Nat):Option (Nat×Nat):=KH t f fieldsT
theorem Xu {t f:Nat} {x:Nat×Nat}:∀ {l:List ((Nat×Nat)×(Nat×Nat))},KH t f l=some x->((t,f),x)∈l
 |[],h=>by cases h
 |p::l,h=>by
  unfold KH at h;cases hb:(ve p.1.1 t&&ve p.1.2 f) with
  |true =>
   rw [hb] at h;simp only [cond_true,yz.injEq] at h;simp only [zf] at hb;obtain ⟨⟨p1,p2⟩,p3⟩:=p;have e1:=x7 hb.1;have e2:=x7 hb.2;simp only at e1 e2 h;subst e1 e2 h;exact zS
  |false =>
   rw [hb] at h;exact qv _ (Xu h)
theorem KB {t f ft off:Nat} (h:fldO t f=some (ft,off)):KC z6 t f=some (ft,off):=by
 have:=zZ.1 JJ _ (Xu h);simpa using this
def AtField (P:Program) (ops:Array Oper) (Q:Exit->Act->World->Prop) (o:Oper) (_:TypeId) (_:Operand) (_:Nat) (rest:List Oper) (a:Act) (w:World):Prop:=wpList P ops Q (o::rest) a w
theorem isField {P:Program} {ops:Array Oper} {Q:Exit->Act->World->Prop} {rest:List Oper} {a:Act} {w:World} {dst:Option Tmp} {ty0:TypeId} {pos:String} {aft:Array Edge} {gd:Option (Nat×Bool)} {t:TypeId} {x:Operand} {f:Nat} (h:AtField P ops Q ⟨dst,.field t x f,ty0,pos,aft,gd⟩ t x f rest a w):wpList P ops Q (⟨dst,.field t x f,ty0,pos,aft,gd⟩::rest) a w:=h
theorem XH {P:Program} {t f ft off:Nat} (hf:KC P t f=some (ft,off)) (cs:Array Value) (w:World):(Instr.field t (.agg cs) f).run P w=(part ft cs off).run P w:=by
 unfold KC at hf;cases hu:P.underlying t with
 |none=>simp [hu] at hf
 |some d =>
  cases d <;> simp [hu] at hf
  rename_i fs;obtain ⟨x,h1,h2,h3⟩:=hf;simp [Instr.field,run_underlying hu,h1,h2,h3,Result.andThen,asAgg]
theorem Wb {P:Program} {ft n off:Nat} (hr:wy P ft n=true) {cs:Array Value} {vs:List Value} (hl:Qd cs.toList off n=some vs) (w:World):(part ft cs off).run P w=.ok (.agg vs.toArray) w:=by
 unfold wy at hr;simp only [zf,beq_iff_eq] at hr;cases hu:P.underlying ft with
 |none=>simp [hu] at hr
 |some d =>
  have hagg:(isAgg ft).run P w=.ok true w:=by
   unfold isAgg;rw [Sem.run_bind,run_underlying hu w];simp only [hu] at hr;cases d <;> simp_all
  cases hq:P.info? ft with
  |none=>simp [hq] at hr
  |some i =>
   have hs:i.size=n:=(by simpa [hq] using hr.2);have e:cs.extract off (off+n)=vs.toArray:=by
    apply Array.ext';rw [← (kN _ _ _ _ hl).1];simp [List.extract_eq_take_drop]
   simp [part,Sem.run_bind,hagg,sizeOf,typeInfo,hq,hs,e]
theorem Z2 {P:Program} {ft off:Nat} (hr:wG P ft=true) {cs:Array Value} {v:Value} (hl:nth cs.toList off=some v) (w:World):(part ft cs off).run P w=.ok v w:=by
 unfold wG at hr;simp only [zf,beq_iff_eq] at hr;cases hu:P.underlying ft with
 |none=>simp [hu] at hr
 |some d =>
  have hagg:(isAgg ft).run P w=.ok false w:=by
   unfold isAgg;rw [Sem.run_bind,run_underlying hu w];simp only [hu] at hr;cases d <;> simp_all
  have e:cs[off]?=some v:=(by rw [Zf] at hl;simpa using hl);simp [part,Sem.run_bind,hagg,e]
section
variable {ops:Array Oper} {Q:Exit->Act->World->Prop} {rest:List Oper} {a:Act} {w w0 w1:World} {M:List Nat} {L L' R:List As} {o1:Oper} {ty:TypeId} {x y:Operand}
theorem AtLoad.wholeT (hw:Region.wanted o1 (yielded ops a.tmps)=true) (ho:o1.op=.load ty x) {g:Nat} (hx:a.eval x=.pointer (some ⟨g,0,none⟩)) {cs:Array Value} {t:TypeId} {fr:Nat×Nat} (hg:w.heap[g]?=some (.cells cs t fr))
  (hr:wK ty cs.size=true) (h:wpList z6 ops Q rest (a.put o1.dst (.agg cs)) w):AtLoad z6 ops Q o1 ty x rest a w:=AtLoad.whole hw ho hx hg (yR hr) h
theorem AtLoad.rowT (hw:Region.wanted o1 (yielded ops a.tmps)=true) (ho:o1.op=.load ty x) {n g o:Nat} (hs:szO ty=some n) (hx:a.eval x=.pointer (some ⟨g,o,none⟩)) {cs:Array Value} {t:TypeId} {fr:Nat×Nat} (hg:w.heap[g]?=some (.cells cs t fr))
  {vs:List Value} (hl:Qd cs.toList o n=some vs) (h:wpList z6 ops Q rest (a.put o1.dst (.agg vs.toArray)) w):AtLoad z6 ops Q o1 ty x rest a w:=AtLoad.row hw ho n hx hg (Kg hs) (kN _ _ _ _ hl).1 (kN _ _ _ _ hl).2 h
theorem AtLoad.cellT (hw:Region.wanted o1 (yielded ops a.tmps)=true) (ho:o1.op=.load ty x) {g o:Nat} (hx:a.eval x=.pointer (some ⟨g,o,none⟩)) {cs:Array Value} {t:TypeId} {fr:Nat×Nat} (hg:w.heap[g]?=some (.cells cs t fr))
  (hr:ja ty=true) {v:Value} (hv:nth cs.toList o=some v) (h:wpList z6 ops Q rest (a.put o1.dst v) w):AtLoad z6 ops Q o1 ty x rest a w:=AtLoad.cell hw ho hx hg (xz hr) hv h
theorem AtLoad.rngT (hw:Region.wanted o1 (yielded ops a.tmps)=true) (ho:o1.op=.load ty x) {g o:Nat} (hx:a.eval x=.pointer (some ⟨g,o,none⟩)) {vs:List Value} (hc:w.rangeAt g o vs)
  (hr:wK ty vs.length=true) (h:wpList z6 ops Q rest (a.put o1.dst (.agg vs.toArray)) w):AtLoad z6 ops Q o1 ty x rest a w:=AtLoad.rng hw ho hx hc (yR hr) h
theorem AtField.rowT {f:Nat} (hw:Region.wanted o1 (yielded ops a.tmps)=true) (ho:o1.op=.field ty x f) {cs:Array Value} (hx:a.eval x=.agg cs) {ft off:Nat} (hf:fldO ty f=some (ft,off)) {n:Nat} (hs:szO ft=some n) {vs:List Value} (hl:Qd cs.toList off n=some vs)
  (h:wpList z6 ops Q rest (a.put o1.dst (.agg vs.toArray)) w):AtField z6 ops Q o1 ty x f rest a w :=
 wpList_step fun _ hK=>by
  rw [if_pos hw];unfold Oper.wp execOp;simp only [ho,hx,Sem.run_bind,XH (KB hf),Wb (Kg hs) hl,Result.andThen_ok];exact hK _ _ h
theorem AtField.cellT {f:Nat} (hw:Region.wanted o1 (yielded ops a.tmps)=true) (ho:o1.op=.field ty x f) {cs:Array Value} (hx:a.eval x=.agg cs) {ft off:Nat} (hf:fldO ty f=some (ft,off)) (hs:ja ft=true) {v:Value} (hl:nth cs.toList off=some v)
  (h:wpList z6 ops Q rest (a.put o1.dst v) w):AtField z6 ops Q o1 ty x f rest a w :=
 wpList_step fun _ hK=>by
  rw [if_pos hw];unfold Oper.wp execOp;simp only [ho,hx,Sem.run_bind,XH (KB hf),Z2 (xz hs) hl,Result.andThen_ok];exact hK _ _ h
theorem AtAlloc.goT (H:St w0 M L w) (hw:Region.wanted o1 (yielded ops a.tmps)=true) (ho:o1.op=.alloc ty) {z:Value} (hz:zO ty=some z) {cs:Array Value} (hc:wH z=some cs)
  (h:∀ b w',St w0 M (blk b (.cells cs ty)::L) w'->wpList z6 ops Q rest (a.put o1.dst (.pointer (some ⟨b,0,none⟩))) w'):AtAlloc z6 ops Q o1 ty rest a w:=AtAlloc.go H hw ho (YV hz) hc h
theorem AtStore.wholeT (H:St w0 M L w) (hw:Region.wanted o1 (yielded ops a.tmps)=true) (ho:o1.op=.store ty x y) {g:Nat} (hx:a.eval x=.pointer (some ⟨g,0,none⟩)) {cs':Array Value} (hy:xL a y=some (.agg cs'))
  (hr:wK ty cs'.size=true) (h1:QB cs'.toList=true) {cs:Array Value} {t:TypeId} (hp:Upd L (blk g (.cells cs t)) (blk g (.cells cs' t)) L') (hl:cs.size=cs'.size)
  (h:∀ w',St w0 M L' w'->wpList z6 ops Q rest (a.put o1.dst undef) w'):AtStore z6 ops Q o1 ty x y rest a w:=AtStore.whole H hw ho hx hy (kM (yR hr)) (ZI h1) hp hl h
theorem AtStore.cellT (H:St w0 M L w) (hw:Region.wanted o1 (yielded ops a.tmps)=true) (ho:o1.op=.store ty x y) {g o:Nat} (hx:a.eval x=.pointer (some ⟨g,o,none⟩)) {v:Value} (hr:ja ty=true) (hy:xL a y=some v)
  (h1:v.oneCell'=true) {cs:Array Value} {cs':List Value} {t:TypeId} (hp:Upd L (blk g (.cells cs t)) (blk g (.cells cs'.toArray t)) L') (hl:QL cs.toList o [v]=some cs')
  (h:∀ w',St w0 M L' w'->wpList z6 ops Q rest (a.put o1.dst undef) w'):AtStore z6 ops Q o1 ty x y rest a w:=by
 have hc:wH v=some #[v]:=(by cases v <;> first|rfl|cases h1);have hl':=ZK _ _ _ _ hl;exact AtStore.mid H hw ho hx hy hc (Qq (xz hr)) (by simp [h1]) hp (by simpa using hl'.1) (by rw [← hl'.2];simp) h
theorem AtStore.midT (H:St w0 M L w) (hw:Region.wanted o1 (yielded ops a.tmps)=true) (ho:o1.op=.store ty x y) {g o:Nat} (hx:a.eval x=.pointer (some ⟨g,o,none⟩)) {v:Value} (hy:xL a y=some v) {vs:Array Value} (hv:wH v=some vs)
  (hr:wK ty vs.size=true) (h1:QB vs.toList=true) {cs:Array Value} {cs':List Value} {t:TypeId}
  (hp:Upd L (blk g (.cells cs t)) (blk g (.cells cs'.toArray t)) L') (hl:QL cs.toList o vs.toList=some cs')
  (h:∀ w',St w0 M L' w'->wpList z6 ops Q rest (a.put o1.dst undef) w'):AtStore z6 ops Q o1 ty x y rest a w:=AtStore.mid H hw ho hx hy hv (kM (yR hr)) (ZI h1) hp (by simpa using (ZK _ _ _ _ hl).1) (by rw [← (ZK _ _ _ _ hl).2];simp) h
theorem QtLoad.wholeT {K:Act->Prop} (hw:Region.wanted o1 (yielded ops a.tmps)=true) (ho:o1.op=.load ty x) {g:Nat} (hx:a.eval x=.pointer (some ⟨g,0,none⟩)) {cs:Array Value} {t:TypeId} {fr:Nat×Nat} (hg:∀ y:Gr w1,y.1.heap[g]?=some (.cells cs t fr))
  (hr:wK ty cs.size=true) (h:wpQuiet z6 ops (qM w1) K rest (a.put o1.dst (.agg cs))):QtLoad z6 ops (qM w1) K o1 ty x rest a:=QtLoad.whole hw ho hx hg (yR hr) h
theorem QtLoad.rowT {K:Act->Prop} (hw:Region.wanted o1 (yielded ops a.tmps)=true) (ho:o1.op=.load ty x) {n g o:Nat} (hs:szO ty=some n) (hx:a.eval x=.pointer (some ⟨g,o,none⟩)) {cs:Array Value} {t:TypeId} {fr:Nat×Nat} (hg:∀ y:Gr w1,y.1.heap[g]?=some (.cells cs t fr))
  {vs:List Value} (hl:Qd cs.toList o n=some vs) (h:wpQuiet z6 ops (qM w1) K rest (a.put o1.dst (.agg vs.toArray))):QtLoad z6 ops (qM w1) K o1 ty x rest a:=QtLoad.row hw ho n hx hg (Kg hs) (kN _ _ _ _ hl).1 (kN _ _ _ _ hl).2 h
theorem QtLoad.cellT {K:Act->Prop} (hw:Region.wanted o1 (yielded ops a.tmps)=true) (ho:o1.op=.load ty x) {g o:Nat} (hx:a.eval x=.pointer (some ⟨g,o,none⟩)) {cs:Array Value} {t:TypeId} {fr:Nat×Nat} (hg:∀ y:Gr w1,y.1.heap[g]?=some (.cells cs t fr))
  (hr:ja ty=true) {v:Value} (hv:nth cs.toList o=some v) (h:wpQuiet z6 ops (qM w1) K rest (a.put o1.dst v)):QtLoad z6 ops (qM w1) K o1 ty x rest a:=QtLoad.cell hw ho hx hg (xz hr) hv h
theorem QtLoad.rngT {K:Act->Prop} (hw:Region.wanted o1 (yielded ops a.tmps)=true) (ho:o1.op=.load ty x) {g o:Nat} (hx:a.eval x=.pointer (some ⟨g,o,none⟩)) {vs:List Value} (hc:∀ y:Gr w1,y.1.rangeAt g o vs)
  (hr:wK ty vs.length=true) (h:wpQuiet z6 ops (qM w1) K rest (a.put o1.dst (.agg vs.toArray))):QtLoad z6 ops (qM w1) K o1 ty x rest a:=QtLoad.rng hw ho hx hc (yR hr) h
theorem qy {fn:Func} {p:Tmp} (h:fn.results=#[.cell p ty]) (H:St w0 M L w) {tmps:Array Value} {g:Nat} {cs:Array Value} {t:TypeId} {fr:Nat×Nat} (hp:tmps.getD p undef=.pointer (some ⟨g,0,none⟩)) (hk:Pick L (blk g (.cells cs t fr)) R) (hr:wK ty cs.size=true) :
  (results fn tmps).run z6 w=.ok (.agg cs) w:=res_h h H hp hk (yR hr)
theorem yv {fn:Func} {p u:Tmp} (h:fn.results=#[.cell p ty,.tmp u]) (H:St w0 M L w) {tmps:Array Value} {g:Nat} {cs:Array Value} {t:TypeId} {fr:Nat×Nat} (hp:tmps.getD p undef=.pointer (some ⟨g,0,none⟩)) (hk:Pick L (blk g (.cells cs t fr)) R) (hr:wK ty cs.size=true) {x:Value} (hx:tmps.getD u undef=x) :
  (results fn tmps).run z6 w=.ok (.tuple #[.agg cs,x]) w:=VO h H hp hk (yR hr) hx
end
theorem AtLoad.cel {ops:Array Oper} {Q:Exit->Act->World->Prop} {rest:List Oper} {a:Act} {w:World} {o1:Oper} {ty:TypeId} {x:Operand} (hw:Region.wanted o1 (yielded ops a.tmps)=true) (ho:o1.op=.load ty x) {g o:Nat} (hx:a.eval x=.pointer (some ⟨g,o,none⟩)) (hr:ja ty=true) {v:Value} (hc:w.cell? ⟨g,o,none⟩=some v)
  (h:wpList z6 ops Q rest (a.put o1.dst v) w):AtLoad z6 ops Q o1 ty x rest a w :=
 wpList_step fun _ hK=>by
  rw [if_pos hw];have hr:=xz hr;unfold wG at hr;simp only [zf,beq_iff_eq] at hr;have hl:(Instr.loadAt ty (.pointer (some ⟨g,o,none⟩))).run z6 w=.ok v w:=by
   cases hu:z6.underlying ty with
   |none=>simp [hu] at hr
   |some d =>
    have hagg:(isAgg ty).run z6 w=.ok false w:=by
     unfold isAgg;rw [Sem.run_bind,run_underlying hu w];simp only [hu] at hr;cases d <;> simp_all
    simp [Instr.loadAt,Instr.sureAddr,loadVar,Sem.run_bind,hagg,run_load,hc]
  unfold Oper.wp execOp;simp only [ho,hx,Sem.run_bind,hl,Result.andThen_ok];exact hK _ _ h
theorem QtLoad.cel {ops:Array Oper} {K:Act->Prop} {rest:List Oper} {a:Act} {w1:World} {o1:Oper} {ty:TypeId} {x:Operand} (hw:Region.wanted o1 (yielded ops a.tmps)=true) (ho:o1.op=.load ty x) {g o:Nat} (hx:a.eval x=.pointer (some ⟨g,o,none⟩)) (hr:ja ty=true) {v:Value} (hc:∀ y:Gr w1,y.1.cell? ⟨g,o,none⟩=some v)
  (h:wpQuiet z6 ops (qM w1) K rest (a.put o1.dst v)):QtLoad z6 ops (qM w1) K o1 ty x rest a :=
 wpQuiet_step fun _ hK=>by
  rw [if_pos hw];have hr:=xz hr;unfold wG at hr;simp only [zf,beq_iff_eq] at hr;refine ⟨v,fun w2 ⟨y,hy⟩=>?_,hK _ h⟩;subst hy;have hl:(Instr.loadAt ty (.pointer (some ⟨g,o,none⟩))).run z6 y.1=.ok v y.1:=by
   cases hu:z6.underlying ty with
   |none=>simp [hu] at hr
   |some d =>
    have hagg:(isAgg ty).run z6 y.1=.ok false y.1:=by
     unfold isAgg;rw [Sem.run_bind,run_underlying hu y.1];simp only [hu] at hr;cases d <;> simp_all
    simp [Instr.loadAt,Instr.sureAddr,loadVar,Sem.run_bind,hagg,run_load,hc y]
  unfold Oper.quietAt execOp;simp only [ho,hx,Sem.run_bind,hl,Result.andThen_ok];exact ⟨rfl,rfl⟩
theorem Wt {w:World} {g:Nat} {C:Array Value} {e:TypeId} (h:(blk g (.cells C e)).ho w) {p:Nat} {v:Value} (hv:C[p]?=some v):w.cell? ⟨g,p,none⟩=some v:=by
 rw [yB] at h;rw [cell_of_row w g p C e (0,0) h,hv]
theorem jx {A:As} {w:World} {ad:Addr} {v:Value} (h:A.ho w) (hc:Hid (∀ w,A.ho w->w.cell? ad=some v)):w.cell? ad=some v:=hc.out w h
section
variable {P Q:Prop}
structure Wr (p:Prop):Prop where
 out:p
theorem kc (h:P:=by first|exact Wt (H.get pk) (Hid.out (by with_reducible assumption))|exact jx (H.get .here) (by with_reducible assumption)|exact jx (H.get (.there .here)) (by with_reducible assumption)|exact jx (H.get (.there (.there .here))) (by with_reducible assumption)|exact jx (H.get (.there (.there (.there .here)))) (by with_reducible assumption)|exact jx (H.get (.there (.there (.there (.there .here))))) (by with_reducible assumption)|exact jx (H.get (.there (.there (.there (.there (.there .here)))))) (by with_reducible assumption)|exact jx (H.get (.there (.there (.there (.there (.there (.there .here))))))) (by with_reducible assumption)|exact jx (H.get (.there (.there (.there (.there (.there (.there (.there .here)))))))) (by with_reducible assumption)|exact jx (H.known HK .here) (by with_reducible assumption)|exact jx (H.known HK (.there .here)) (by with_reducible assumption)|exact jx (H.known HK (.there (.there .here))) (by with_reducible assumption)|exact jx (H.known HK (.there (.there (.there .here)))) (by with_reducible assumption)):P:=h
theorem kq (h:P:=by first|exact fun y=>Wt ((HX y).get pk) (Hid.out (by with_reducible assumption))|exact fun y=>jx ((HX y).get .here) (by with_reducible assumption)|exact fun y=>jx ((HX y).get (.there .here)) (by with_reducible assumption)|exact fun y=>jx ((HX y).get (.there (.there .here))) (by with_reducible assumption)|exact fun y=>jx ((HX y).get (.there (.there (.there .here)))) (by with_reducible assumption)|exact fun y=>jx ((HX y).get (.there (.there (.there (.there .here))))) (by with_reducible assumption)|exact fun y=>jx ((HX y).get (.there (.there (.there (.there (.there .here)))))) (by with_reducible assumption)|exact fun y=>jx ((HX y).get (.there (.there (.there (.there (.there (.there .here))))))) (by with_reducible assumption)|exact fun y=>jx ((HX y).get (.there (.there (.there (.there (.there (.there (.there .here)))))))) (by with_reducible assumption)|exact fun y=>jx ((HX y).known HK .here) (by with_reducible assumption)|exact fun y=>jx ((HX y).known HK (.there .here)) (by with_reducible assumption)|exact fun y=>jx ((HX y).known HK (.there (.there .here))) (by with_reducible assumption)|exact fun y=>jx ((HX y).known HK (.there (.there (.there .here)))) (by with_reducible assumption)):P:=h
theorem sL (q:Q) (h:Wr Q->P:=by
 intro hq;first
 |with_reducible refine qN ?_
  first|refine AtLoad.cellT rfl rfl rfl gt rfl rfl ?_|refine AtLoad.wholeT rfl rfl rfl gt rfl ?_|refine AtLoad.rowT rfl rfl rfl rfl gt rfl ?_|refine AtLoad.cel rfl rfl rfl rfl kc ?_
 |with_reducible refine isField ?_
  first|refine AtField.cellT rfl rfl rfl rfl rfl rfl ?_|refine AtField.rowT rfl rfl rfl rfl rfl rfl ?_
 simp only [Act.put,puA,puB,puC];exact hq.out):P:=h ⟨q⟩
theorem sS (q:Q) (h:Q->P:=by
 intro hq;first
 |with_reducible refine yy ?_
  first|refine AtStore.cellT H rfl rfl rfl rfl rfl rfl pk rfl ?_|refine AtStore.wholeT H rfl rfl rfl rfl rfl rfl pk rfl ?_|refine AtStore.midT H rfl rfl rfl rfl rfl rfl rfl pk rfl ?_
 |with_reducible refine isBox ?_
  refine AtBox.go H rfl rfl rfl rfl ?_
 |with_reducible refine isAlloc ?_
  refine AtAlloc.goT H rfl rfl rfl rfl ?_
 simp only [Act.put,puA,puB,puC];exact hq):P:=h q
theorem sQ (q:Q) (h:Wr Q->P:=by
 intro hq;with_reducible refine kI ?_
 first|refine QtLoad.cellT rfl rfl rfl gq rfl rfl ?_|refine QtLoad.wholeT rfl rfl rfl gq rfl ?_|refine QtLoad.rowT rfl rfl rfl rfl gq rfl ?_|refine QtLoad.cel rfl rfl rfl rfl kq ?_
 simp only [Act.put,puA,puB,puC];exact hq.out):P:=h ⟨q⟩
theorem sG (q:Q) (h:Q->P:=by
 intro hq;simp only [Qh,W9,qU,k6,List.take_succ_cons,jG,wO,y8];exact hq):P:=h q
theorem sT (q:Q) (h:Q->P:=by
 intro hq;try simp only [Qo,VN,valK,qA,z7,z8,wO,y8]
 try simp only [Act.put,puA,puB,puC]
 exact hq):P:=h q
theorem sH (p:P) (h:P->Q:=by
 intro h;try simp only [Qo,VN,valK,qA,z7,z8,wO,y8] at h
 exact h):Q:=h p
end
end
section
open Go.RowKit Go.Maps
theorem vl {α:Type} {l:List α} {i:Nat} {x:α} (h:l[i]?=some x):i<l.length:=(zy.1 h).1
theorem ownBlock_mem {v:Value} {b:Nat}:b∈v.ownBlock.toList↔v.ownBlock=some b:=by
 cases v.ownBlock <;> simp [eq_comm]
def X6 (e:TypeId) (size:Nat) (v:Value) (n:Nat) (xs:List Value):As:=⟨v.ownBlock.toList,fun w=>w.ownsRow 0 e size v n xs,
 fun w w' h hw=>by
  refine ⟨hw.1,?_⟩;rcases hw.2 with hn|⟨g,cap,cur,rfl,hb,hg,rest⟩
  ·exact .inl hn
  ·exact .inr ⟨g,cap,cur,rfl,hb,(h g (ownBlock_mem.2 rfl)).trans hg,rest⟩,
 fun w hw b hb=>(hw.lt b (ownBlock_mem.1 hb)).2⟩
theorem rawA_ho (e:TypeId) (size:Nat) (v:Value) (n:Nat) (xs:List Value) (w:World):(X6 e size v n xs).ho w=w.ownsRow 0 e size v n xs:=rfl
def zi {α:Type} (enc:α->List Value) (e:TypeId) (k:Nat) (v:Value) (xs:List α):As:=X6 e k v xs.length (zX enc xs)
section
variable {α:Type} {enc:α->List Value} {e:TypeId} {k:Nat} {v:Value} {xs:List α} {w:World}
theorem yS (w:World):(zi enc e k (.slice none 0 0) []).ho w:=World.ownsRow_nil w 0 e k
theorem zW (h:(zi enc e k v xs).ho w):∃ a c,v=.slice a xs.length c∧xs.length<=maxLen:=by
 rcases h.2 with ⟨h1,h2⟩|⟨g,cap,cur,h1,_,_,h4,h5,_⟩
 ·exact ⟨none,0,by rw [h1,h2],by rw [h2];simp [maxLen]⟩
 ·exact ⟨_,_,h1,qs h4 h5⟩
theorem qF (h:(zi enc e k v xs).ho w) (hx:0<xs.length):∃ g c,v=.slice (some ⟨g,0,none⟩) xs.length c∧xs.length<=c∧c<=maxLen:=by
 rcases h.2 with ⟨_,h2⟩|⟨g,cap,cur,h1,_,_,h4,h5,_⟩
 ·omega
 ·exact ⟨g,cap,h1,h4,h5⟩
theorem jC {g n c:Nat} (h:(zi enc e k (.slice (some ⟨g,0,none⟩) n c) xs).ho w) (hk:∀ x,(enc x).length=k) {i:Nat} {x:α} (hx:xs[i]?=some x):w.rangeAt g (i*k) (enc x):=by
 intro j u hj;have hjk:j<k:=(by rw [← hk x];exact vl hj);have h1:=World.ownsRow.cells h (g:=g) rfl (i*k+j) u (by rw [wV enc k hk xs i x hx j hjk];exact hj);rwa [Addr.add_mid,qA] at h1
theorem qL {g n c:Nat} (h:(zi enc e k (.slice (some ⟨g,0,none⟩) n c) xs).ho w) (hk:∀ x,(enc x).length=k) {i:Nat} {x:α} (hx:xs[i]?=some x) {j:Nat} {u:Value} (hj:(enc x)[j]?=some u):w.cell? ⟨g,i*k+j,none⟩=some u:=jC h hk hx j u hj
theorem jy {g:Nat} {cs:Array Value} (h:w.heap[g]?=some (.cells cs e)) (hn:xs.length<=maxLen) (hc:cs.toList=zX enc xs) (hk:∀ x,(enc x).length=k):(zi enc e k (.slice (some ⟨g,0,none⟩) xs.length xs.length) xs).ho w:=by
 refine ⟨qz enc k hk xs,.inr ⟨g,xs.length,cs,rfl,zH _,h,zp _,hn,?_,?_⟩⟩
 ·rw [← qz enc k hk xs,← hc];simp
 ·rw [hc];exact zM (by rw [qz enc k hk xs];exact zp _)
end
attribute [irreducible] zi
theorem Ke {w w':World} {e:TypeId} {size:Nat} {v v':Value} {n n':Nat} {xs xs':List Value} (ho:w'.os=w.os) (ht:w'.tape=w.tape) (hp:w'.output=w.output) (hs:w.heap.size<=w'.heap.size)
  (hk:∀ b,b<w.heap.size->v.ownBlock≠some b->w'.heap[b]?=w.heap[b]?) (hr:w'.ownsRow 0 e size v' n' xs') (hf:∀ b,v'.ownBlock=some b->w.heap.size<=b∨v.ownBlock=some b):St w (X6 e size v n xs).fp [X6 e size v' n' xs'] w' :=
 ⟨ho,ht,hp,hs,fun b hb hm=>hk b hb fun e=>hm (ownBlock_mem.2 e),fun A hA=>by simp at hA;subst hA;exact hr,fun A hA b hb=>by simp at hA;subst hA;rcases hf b (ownBlock_mem.1 hb) with h|h;exact .inl h;exact .inr (ownBlock_mem.2 h),by simp⟩
section
variable {P:Program} {w:World}
theorem Z1 (t ty e:TypeId) (i:TypeInfo) (z:Value) (size bytes:Nat) (ht:P.underlying t=some (.slice e)) (hi:P.info? e=some i) (hz:i.zero=some z)
  (hsize:i.size=size) (hby:i.bytes=bytes) (hzs:z.cells.size=size) (hsz:0<size)
  (v:Value) (n:Nat) (xs:List Value) (hown:(X6 e size v n xs).ho w)
  (a:Addr) (m c:Nat) (news:List Value) (hl:news.length=m*size) (hnews:∀ j u,news[j]?=some u->w.cell? (a.add j)=some u) (h1:∀ u∈news,u.oneCell'=true)
  (hbytes:(n+m)*bytes<=140737488355328) (hb1:0<bytes) :
  ∃ v' w',(Builtin.append_ #[t,t] ty #[v,.slice (some a) m c]).run P w=.ok v' w'∧St w (X6 e size v n xs).fp [X6 e size v' (n+m) (xs++news)] w':=by
 rw [rawA_ho] at hown;have h47:n+m<=140737488355328:=qs (Zp _ hb1) hbytes;have h63:n+m<=maxLen:=(by simp only [maxLen];omega);by_cases hroom:∃ g cap,v=.slice (some ⟨g,0,none⟩) n cap∧n+m<=cap
 ·obtain ⟨v',w',hr,h2,h3,h4⟩:=run_append_own (P:=P) w 0 t ty e i z size bytes ht hi hz hsize hby hzs hsz v n xs hown a m c news hl hnews h1 h63 hbytes (zH _);obtain ⟨g,cap,rfl,hc⟩:=hroom;rcases hown.2 with ⟨h,_⟩|⟨g',cap',cur,hv,_,hg,_,hcm,hcs,htake⟩
  ·cases h
  ·injection hv with e1 e2 e3
   injection e1 with e1
   injection e1 with e1
   subst e1 e3;have hr2:=run_append_room (P:=P) w t ty e i ht hi g n cap cur hg a m c news (by rw [hsize];exact hl) hnews h1 hc (by rw [hsize,hl,hcs,← kC];exact kV _ hc);rw [hr2] at hr;injection hr with e1 e2
   subst e1 e2;exact ⟨_,_,hr2,Ke rfl rfl rfl (by simp) (fun b hb hne=>h3.block b hb (fun e=>hne e.symm)) h2 (fun b hb=>.inr hb)⟩
 ·subst hsize hby;have hlen:(xs++news).length=(n+m)*i.size:=(by rw [zN,hown.1,hl,kC]);have grown:∀ (old:Nat),old<n+m ->
    St w (X6 e i.size v n xs).fp [X6 e i.size (.slice (some ⟨w.heap.size,0,none⟩) (n+m) (grownCap w (n+m) old e)) (n+m) (xs++news)] (w.drew.alloc (.cells (xs.toArray++news.toArray++Builtin.zeroCells z.cells (grownCap w (n+m) old e-(n+m))) e)):=by
   intro old ho;have hge:=grownCap_ge w (n+m) old e;have hcm:grownCap w (n+m) old e<=maxLen:=grownCap_le_maxLen w (n+m) old e h63;refine Ke rfl rfl rfl (by simp) (fun b hb _=>yJ w.drew _ b hb) ⟨hlen,.inr ⟨w.heap.size,_,_,rfl,zH _,heap1 w.drew _,hge,hcm,?_,?_⟩⟩ (fun b hb=>.inl (by injection hb with hb;exact Nat.le_of_eq hb))
   ·simp only [Array.size_append,List.size_toArray,size_zeroCells,hzs,hown.1,hl,← kC];congr 1
    omega
   ·simp only [Array.toList_append,y7];rw [← y7,← hlen];exact List.take_left
  rcases hown.2 with ⟨rfl,rfl⟩|⟨g,cap,cur,rfl,hbg,hg,hnc,hcm,hcs,htake⟩
  ·have hx:xs=[]:=qI (by simpa using hown.1);subst hx;by_cases hm:m=0
   ·subst hm;have hn:news=[]:=qI (by simpa using hl);subst hn;refine ⟨.slice none 0 0,w,?_,Ke rfl rfl rfl (zp _) (fun _ _ _=>rfl) (World.ownsRow_nil w 0 e i.size) (fun b hb=>.inr hb)⟩;simp [Builtin.append_,run_underlying ht,sizeOf,typeInfo,hi,Builtin.lenOf,Builtin.firstCells,loadCells,loadCellsFrom]
   ·have hr:=run_append_nil (P:=P) w t ty e i z ht hi hz a m c news hl hnews (by omega) (by omega) (by have hb:=hbytes;simp only [qA] at hb;omega);have hgr:=grown 0 (by omega);simp only [qA,z8,Array.empty_append] at hgr ⊢;exact ⟨_,_,hr,hgr⟩
  ·have hroom':¬ n+m<=cap:=fun h=>hroom ⟨g,cap,rfl,h⟩
   have holds:∀ j u,xs[j]?=some u->w.cell? ((⟨g,0,none⟩:Addr).add j)=some u:=hown.cells (g:=g) rfl;have hr:=run_append_grow (P:=P) w t ty e i z ht hi hz ⟨g,0,none⟩ n cap xs hown.1 holds a m c news hl hnews (by omega) (by omega) (growslice_fits (by omega) hbytes);exact ⟨_,_,hr,grown cap (by omega)⟩
end
def We:List (Nat×Nat):=[(23,3),(24,23),(25,4),(35,37),(53,5),(76,34),(77,32),(103,104),(117,64),(120,81)]
def JL:List (Nat×(Value×Nat×Nat)):=[(3,(.int .i64 0,1,8)),(23,(.slice none 0 0,1,24)),(4,(.bool false,1,1)),(37,(.agg #[.int .i64 0,.int .u64 0,.int .u64 0,.int .u64 0,.int .u64 0,.int .i64 0,.int .i64 0,.slice none 0 0],8,80)),(5,(.int .u8 0,1,1)),(34,(.agg #[.int .u64 0,.int .u64 0,.int .u64 0,.int .u64 0],4,32)),(32,(.int .u64 0,1,8)),(104,(.agg #[.int .i64 0,.int .i64 0],2,16)),(64,(.pointer none,1,8)),(81,(.agg #[.bool false,.int .u64 0,.int .u64 0],3,24))]
theorem sl_23:z6.underlying 23=some (.slice 3):=by kernel_rfl
theorem sl_24:z6.underlying 24=some (.slice 23):=by kernel_rfl
theorem sl_25:z6.underlying 25=some (.slice 4):=by kernel_rfl
theorem sl_35:z6.underlying 35=some (.slice 37):=by kernel_rfl
theorem sl_53:z6.underlying 53=some (.slice 5):=by kernel_rfl
theorem sl_76:z6.underlying 76=some (.slice 34):=by kernel_rfl
theorem sl_77:z6.underlying 77=some (.slice 32):=by kernel_rfl
theorem sl_103:z6.underlying 103=some (.slice 104):=by kernel_rfl
theorem sl_117:z6.underlying 117=some (.slice 64):=by kernel_rfl
theorem sl_120:z6.underlying 120=some (.slice 81):=by kernel_rfl
theorem in_3:(z6.info? 3).map (fun i=>(i.zero,i.size,i.bytes))=some (some (.int .i64 0),1,8):=by kernel_rfl
theorem in_23:(z6.info? 23).map (fun i=>(i.zero,i.size,i.bytes))=some (some (.slice none 0 0),1,24):=by kernel_rfl
theorem in_4:(z6.info? 4).map (fun i=>(i.zero,i.size,i.bytes))=some (some (.bool false),1,1):=by kernel_rfl
theorem in_37:(z6.info? 37).map (fun i=>(i.zero,i.size,i.bytes))=some (some (.agg #[.int .i64 0,.int .u64 0,.int .u64 0,.int .u64 0,.int .u64 0,.int .i64 0,.int .i64 0,.slice none 0 0]),8,80):=by kernel_rfl
theorem in_5:(z6.info? 5).map (fun i=>(i.zero,i.size,i.bytes))=some (some (.int .u8 0),1,1):=by kernel_rfl
theorem in_34:(z6.info? 34).map (fun i=>(i.zero,i.size,i.bytes))=some (some (.agg #[.int .u64 0,.int .u64 0,.int .u64 0,.int .u64 0]),4,32):=by kernel_rfl
theorem in_32:(z6.info? 32).map (fun i=>(i.zero,i.size,i.bytes))=some (some (.int .u64 0),1,8):=by kernel_rfl
theorem in_104:(z6.info? 104).map (fun i=>(i.zero,i.size,i.bytes))=some (some (.agg #[.int .i64 0,.int .i64 0]),2,16):=by kernel_rfl
theorem in_64:(z6.info? 64).map (fun i=>(i.zero,i.size,i.bytes))=some (some (.pointer none),1,8):=by kernel_rfl
theorem in_81:(z6.info? 81).map (fun i=>(i.zero,i.size,i.bytes))=some (some (.agg #[.bool false,.int .u64 0,.int .u64 0]),3,24):=by kernel_rfl
theorem Kc:∀ p∈We,z6.underlying p.1=some (.slice p.2):=by
 simp only [We,zG,List.not_mem_nil,or_false,forall_eq_or_imp,forall_eq];exact ⟨sl_23,sl_24,sl_25,sl_35,sl_53,sl_76,sl_77,sl_103,sl_117,sl_120⟩
theorem Vw:∀ p∈JL,(z6.info? p.1).map (fun i=>(i.zero,i.size,i.bytes))=some (some p.2.1,p.2.2.1,p.2.2.2):=by
 simp only [JL,zG,List.not_mem_nil,or_false,forall_eq_or_imp,forall_eq];exact ⟨in_3,in_23,in_4,in_37,in_5,in_34,in_32,in_104,in_64,in_81⟩
def wY (t:Nat):Option Nat:=Yw t We
def vm (t:Nat):Option (Value×Nat×Nat):=Yw t JL
theorem wB {t e:Nat} (h:wY t=some e):z6.underlying t=some (.slice e):=Kc _ (kv h)
theorem kr {t:Nat} {z:Value} {s b:Nat} (h:vm t=some (z,s,b)):∃ i,z6.info? t=some i∧i.zero=some z∧i.size=s∧i.bytes=b:=by
 have:=Vw _ (kv h);obtain ⟨i,h1,h2,h3,h4⟩:=info_parts this;exact ⟨i,h1,h2,h3,h4⟩
section
variable {ops:Array Oper} {Q:Exit->Act->World->Prop} {rest:List Oper} {a:Act} {w w0 w1:World} {M:List Nat} {L L' R:List As} {o1:Oper} {dst:Option Tmp} {ty0:TypeId} {pos:String} {aft:Array Edge} {gd:Option (Nat×Bool)}
def AtAppend (P:Program) (ops:Array Oper) (Q:Exit->Act->World->Prop) (o:Oper) (_:TypeId) (_ _:Operand) (rest:List Oper) (a:Act) (w:World):Prop:=wpList P ops Q (o::rest) a w
theorem xm {P:Program} {t:TypeId} {x y:Operand} (h:AtAppend P ops Q ⟨dst,.call ⟨.builtin .append,#[x,y],#[t,t]⟩,ty0,pos,aft,gd⟩ t x y rest a w):wpList P ops Q (⟨dst,.call ⟨.builtin .append,#[x,y],#[t,t]⟩,ty0,pos,aft,gd⟩::rest) a w:=h
theorem AtAppend.go {α:Type} {enc:α->List Value} {t e:TypeId} {x y:Operand} (H:St w0 M L w) (hw:Region.wanted o1 (yielded ops a.tmps)=true) (ho:o1.op=.call ⟨.builtin .append,#[x,y],#[t,t]⟩) (hte:wY t=some e) {z:Value} {k bytes:Nat} (hi:vm e=some (z,k,bytes))
  (hz:z.cells.size=k) (hk0:0<k) (hb0:0<bytes) {v:Value} (hx:xL a x=some v) {xs:List α} (hp:Pick L (zi enc e k v xs) R) {s m c:Nat} (hy:a.eval y=.slice (some ⟨s,0,none⟩) m c) {cs:Array Value} {fr:Nat×Nat} (hg:w.heap[s]?=some (.cells cs e fr)) (ys:List α) (hm:ys.length=m)
  (hcs:cs.toList=zX enc ys) (hk:∀ x,(enc x).length=k) (h1:∀ x,∀ u∈enc x,u.oneCell'=true) (hb:(xs.length+ys.length)*bytes<=140737488355328)
  (h:∀ ad cp w',St w0 M (zi enc e k (.slice ad (xs.length+m) cp) (xs++ys)::R) w'->wpList z6 ops Q rest (a.put o1.dst (.slice ad (xs.length+m) cp)) w'):AtAppend z6 ops Q o1 t x y rest a w :=
 wpList_step fun _ hK=>by
  rw [if_pos hw];obtain ⟨i,h2,h3,h4,h5⟩:=kr hi;have H':=H.pick hp;subst hm;have hrow:(X6 e k v xs.length (zX enc xs)).ho w:=(by have:=H'.ho _ zS;unfold zi at this;exact this);obtain ⟨v',w',hr,hst⟩:=Z1 (P:=z6) t o1.type e i z k bytes (wB hte) h2 h3 h4 h5 hz hk0 v xs.length (zX enc xs) hrow ⟨s,0,none⟩ ys.length c (zX enc ys) (qz enc k hk ys) (fun j u hj=>by
   rw [Addr.add_mid,qA,cell_of_row w s j cs e fr hg];rw [← hcs] at hj;simpa using hj) (fun u hu=>by
   obtain ⟨y,_,hy⟩:=qP.1 hu;exact h1 y u hy) hb hb0
  unfold Oper.wp execOp;simp only [ho,resolve,invoke,builtin,Sem.run_bind,Sem.run_pure,Result.andThen_ok,jt,qU,k6,xR hx,hy,hr];have hst':St w (zi enc e k v xs).fp [zi enc e k v' (xs++ys)] w':=by
   unfold zi;rw [zN,show zX enc (xs++ys)=zX enc xs++zX enc ys by simp [zX]];exact hst
  obtain ⟨ad,cp,rfl,_⟩:=zW (hst'.ho _ zS);have hst2:=H'.call hst';simp only [zN] at hst2 ⊢;exact hK _ _ (h ad cp w' hst2)
end
end
section
open Go.RowKit Go.Maps
def wX (P:Program) (kt:TypeId) (m:Nat) (es:List (Value×Value)):As:=⟨[m],fun w=>∃ (arr:Array MapEntry) (clock:Nat),w.heap[m]?=some (.map arr clock)∧arr.toList.map (fun e=>(e.key,e.val))=es∧∀ e∈es,∃ l,keyOf P kt e.1=some l,
 fun w w' h hw=>by obtain ⟨arr,c,h1,h2⟩:=hw;exact ⟨arr,c,(h m (by simp)).trans h1,h2⟩,
 fun w hw b hb=>by obtain ⟨arr,c,h1,_⟩:=hw;simp at hb;subst hb;exact lt_of_block h1⟩
section
variable {P:Program} {kt:TypeId} {m:Nat} {es:List (Value×Value)} {w:World}
theorem KL:(wX P kt m es).fp=[m]:=rfl
theorem mapA_of {g:Nat} {c:Nat} (h:w.heap[g]?=some (.map #[] c)):(wX P kt g []).ho w:=⟨#[],c,h,rfl,by simp⟩
theorem Xw (K:Keyed P kt) (h:(wX P kt m es).ho w) {x:Value} {l:Lit} (hx:keyOf P kt x=some l):∃ (arr:Array MapEntry) (clock:Nat),w.heap[m]?=some (.map arr clock)∧arr.toList.map (fun e=>(e.key,e.val))=es ∧
  (((Instr.findKey kt x arr.toList).run P w=.ok none w∧∀ e∈es,e.1≠x)∨∃ j v,(Instr.findKey kt x arr.toList).run P w=.ok (some (j,v)) w∧es[j]?=some (x,v)):=by
 obtain ⟨arr,c,h1,h2,h3⟩:=h;refine ⟨arr,c,h1,h2,?_⟩;rcases K.find w hx arr.toList (fun e he=>h3 (e.key,e.val) (by rw [← h2];exact zC.2 ⟨e,he,rfl⟩)) with ⟨r1,r2⟩|⟨j,e,r1,r2,r3⟩
 ·refine .inl ⟨r1,fun e he=>?_⟩;rw [← h2] at he;obtain ⟨e',he',rfl⟩:=zC.1 he;exact r2 e' he'
 ·refine .inr ⟨j,e.val,r1,?_⟩;rw [← h2,zq,r2];simp [r3]
def Found (es:List (Value×Value)) (x z:Value) (v:Value) (ok:Bool):Prop:=(ok=true∧(x,v)∈es)∨(ok=false∧v=z∧∀ e∈es,e.1≠x)
theorem jb (K:Keyed P kt) (h:(wX P kt m es).ho w) {T et:TypeId} (hu:P.underlying T=some (.map kt et)) {x:Value} {l:Lit} (hx:keyOf P kt x=some l) {z:Value} (hz:∀ w,(zeroValue et).run P w=.ok z w) (ok:Bool) :
  ∃ v b,Found es x z v b∧(Instr.lookup T (.map (some m)) x ok).run P w=.ok (if ok then .tuple #[v,.bool b] else v) w:=by
 obtain ⟨arr,c,h1,h2,h3⟩:=Xw K h hx;have hck:(Instr.checkKey arr.isEmpty 10000 kt x).run P w=.ok () w:=K.check w _ hx;rcases h3 with ⟨r1,r2⟩|⟨j,v,r1,r2⟩
 ·refine ⟨z,false,.inr ⟨rfl,rfl,r2⟩,?_⟩;unfold Instr.lookup;simp [run_underlying hu,MapKept.run_getObj_map h1,hck,r1,hz,Result.andThen]
 ·refine ⟨v,true,.inl ⟨rfl,zc r2⟩,?_⟩;unfold Instr.lookup;simp [run_underlying hu,MapKept.run_getObj_map h1,hck,r1,Result.andThen]
theorem ZO (K:Keyed P kt) (h:(wX P kt m es).ho w) {T et:TypeId} (hu:P.underlying T=some (.map kt et)) {x v:Value} {l:Lit} (hx:keyOf P kt x=some l) (hn:∀ e∈es,e.1≠x) :
  ∃ w',(Instr.mapUpdate T (.map (some m)) x v).run P w=.ok () w'∧St w (wX P kt m es).fp [wX P kt m (es++[(x,v)])] w':=by
 obtain ⟨arr,c,h1,h2,h3⟩:=Xw K h hx;have hck:(Instr.checkKey false 10000 kt x).run P w=.ok () w:=K.check w _ hx;rcases h3 with ⟨r1,_⟩|⟨j,v',r1,r2⟩
 ·refine ⟨{ w with heap:=w.heap.setIfInBounds m (.map (arr.push { key:=x,val:=v,born:=c }) (c+1)) },?_,?_⟩
  ·unfold Instr.mapUpdate;simp [run_underlying hu,MapKept.run_getObj_map h1,hck,r1,MapKept.run_setObj_map _ h1,Result.andThen]
  ·have hm:=lt_of_block h1;obtain ⟨_,_,_,_,h3'⟩:=h;refine ⟨rfl,rfl,rfl,by simp,fun b hb hne=>?_,fun A hA=>?_,fun A hA b hb=>?_,by simp⟩
   ·rw [KL] at hne;simp at hne;simp [YX,Ne.symm hne]
   ·simp at hA;subst hA;refine ⟨arr.push { key:=x,val:=v,born:=c },c+1,by simp [hm],by simp [h2],fun e he=>?_⟩;rcases zt.1 he with he|he
    ·exact h3' e he
    ·simp at he;subst he;exact ⟨l,hx⟩
   ·simp at hA;subst hA;rw [KL] at hb ⊢;exact .inr hb
 ·exact absurd rfl (hn _ (zc r2))
end
attribute [irreducible] wX
theorem St.rng {α:Type} {enc:α->List Value} {e k g n c i:Nat} {xs:List α} {x:α} {w0 w:World} {M:List Nat} {L K R:List As} (H:St w0 M L w) (HK:Ks w0 M K) (hp:Pick K (zi enc e k (.slice (some ⟨g,0,none⟩) n c) xs) R) (hk:∀ x,(enc x).length=k) (hx:xs[i]?=some x):w.rangeAt g (i*k) (enc x) :=
 jC (H.known HK hp) hk hx
theorem JN:laidOutB z6=true:=by kernel_rfl
theorem mt_85:z6.underlying 85=some (.map 32 3):=by kernel_rfl
theorem un_32:z6.underlying 32=some (.int .u64):=by kernel_rfl
theorem Yu:Keyed z6 32:=int_keyed un_32
theorem XW:z6.underlying 118=some (.map 9 3):=by kernel_rfl
theorem un_9:z6.underlying 9=some .string:=by kernel_rfl
theorem QV:Keyed z6 9:=string_keyed un_9
section
variable {ops:Array Oper} {Q:Exit->Act->World->Prop} {K:Act->Prop} {rest:List Oper} {a:Act} {w w0 w1:World} {M:List Nat} {L L' R:List As} {o1:Oper} {dst:Option Tmp} {ty0:TypeId} {pos:String} {aft:Array Edge} {gd:Option (Nat×Bool)}
theorem YJ {t e:TypeId} (hte:wY t=some e) {z:Value} {k bytes:Nat} (hi:vm e=some (z,k,bytes)) (hk0:Xa 1 k=true) (hk1:Xa k 16777216=true) {v:Value} {cs:Array Value} (hc:wH v=some cs) (hs:cs.size=k) (w:World) :
  (Instr.buildSlice t 1 #[(0,v)]).run z6 w=.ok (.slice (some ⟨w.heap.size,0,none⟩) 1 1) (w.alloc (.cells cs e)):=by
 obtain ⟨i,h2,h3,h4,h5⟩:=kr hi;have:=Z3 (P:=z6) w t e cs (wB hte) (by simp [h2,h4,hs]) (by simp [h2,h3]) (by have:=Nat.le_of_ble_eq_true hk0;omega) (by have:=Nat.le_of_ble_eq_true hk1;omega);cases v <;> simp only [wH,yz.injEq] at hc <;> subst hc <;> first|exact this|(simp only [Instr.buildSlice,Instr.fill,Value.cells] at this ⊢;exact this)
def AtSlice (P:Program) (ops:Array Oper) (Q:Exit->Act->World->Prop) (o:Oper) (_:TypeId) (_:Nat) (_:Array (Nat×Operand)) (rest:List Oper) (a:Act) (w:World):Prop:=wpList P ops Q (o::rest) a w
theorem ym {P:Program} {t:TypeId} {n:Nat} {ps:Array (Nat×Operand)} (h:AtSlice P ops Q ⟨dst,.buildSlice t n ps,ty0,pos,aft,gd⟩ t n ps rest a w):wpList P ops Q (⟨dst,.buildSlice t n ps,ty0,pos,aft,gd⟩::rest) a w:=h
theorem AtSlice.one {t e:TypeId} {x:Operand} (H:St w0 M L w) (hw:Region.wanted o1 (yielded ops a.tmps)=true) (ho:o1.op=.buildSlice t 1 #[(0,x)]) (hte:wY t=some e) {z:Value} {k bytes:Nat} (hi:vm e=some (z,k,bytes)) (hk0:Xa 1 k=true) (hk1:Xa k 16777216=true)
  {v:Value} (hx:xL a x=some v) {cs:Array Value} (hc:wH v=some cs) (hs:cs.size=k)
  (h:∀ b w',St w0 M (blk b (.cells cs e)::L) w'->wpList z6 ops Q rest (a.put o1.dst (.slice (some ⟨b,0,none⟩) 1 1)) w'):AtSlice z6 ops Q o1 t 1 #[(0,x)] rest a w :=
 wpList_step fun _ hK=>by
  rw [if_pos hw];unfold Oper.wp execOp;simp only [ho,jt,qU,k6,xR hx,Sem.run_bind,YJ hte hi hk0 hk1 hc hs,Result.andThen_ok,Sem.run_pure];exact hK _ _ (h _ _ (H.alloc _))
def QtLook (P:Program) (ops:Array Oper) (C:World->Prop) (K:Act->Prop) (o:Oper) (_:TypeId) (_ _:Operand) (_:Bool) (rest:List Oper) (a:Act):Prop:=wpQuiet P ops C K (o::rest) a
theorem QtLook.go {T kt et:TypeId} {x y:Operand} {ok:Bool} (hw:Region.wanted o1 (yielded ops a.tmps)=true) (ho:o1.op=.lookup T x y ok) {m:Nat} (hx:a.eval x=.map (some m)) {v:Value} (r:Value)
  (hr:∀ z:Gr w1,(Instr.lookup T (.map (some m)) v ok).run z6 z.1=.ok r z.1) (hy:a.eval y=v)
  (h:wpQuiet z6 ops (qM w1) K rest (a.put o1.dst r)):QtLook z6 ops (qM w1) K o1 T x y ok rest a :=
 wpQuiet_step fun _ hK=>by
  rw [if_pos hw];refine ⟨r,fun w2 ⟨z,hz⟩=>?_,hK _ h⟩;subst hz;unfold Oper.quietAt execOp;simp only [ho,hx,hy,Sem.run_bind,hr z,Result.andThen_ok];exact ⟨rfl,rfl⟩
def AtUpdate (P:Program) (ops:Array Oper) (Q:Exit->Act->World->Prop) (o:Oper) (_:TypeId) (_ _ _:Operand) (rest:List Oper) (a:Act) (w:World):Prop:=wpList P ops Q (o::rest) a w
theorem ZA {P:Program} {t:TypeId} {x y z:Operand} (h:AtUpdate P ops Q ⟨dst,.mapUpdate t x y z,ty0,pos,aft,gd⟩ t x y z rest a w):wpList P ops Q (⟨dst,.mapUpdate t x y z,ty0,pos,aft,gd⟩::rest) a w:=h
theorem AtUpdate.new {T kt et:TypeId} {x y z:Operand} (KK:Keyed z6 kt) (hu:z6.underlying T=some (.map kt et)) (H:St w0 M L w) (hw:Region.wanted o1 (yielded ops a.tmps)=true) (ho:o1.op=.mapUpdate T x y z) {m:Nat} (hx:a.eval x=.map (some m)) {es:List (Value×Value)} (hp:Pick L (wX z6 kt m es) R)
  {k v:Value} (hy:a.eval y=k) (hz:xL a z=some v) {l:Lit} (hk:keyOf z6 kt k=some l) (hn:∀ e∈es,e.1≠k)
  (h:∀ w',St w0 M (wX z6 kt m (es++[(k,v)])::R) w'->wpList z6 ops Q rest (a.put o1.dst undef) w'):AtUpdate z6 ops Q o1 T x y z rest a w :=
 wpList_step fun _ hK=>by
  rw [if_pos hw];have H':=H.pick hp;obtain ⟨w',hr,hst⟩:=ZO KK (H'.ho _ zS) hu (v:=v) hk hn;unfold Oper.wp execOp;simp only [ho,hx,hy,xR hz,Sem.run_bind,hr,Result.andThen_ok,Sem.run_pure];exact hK _ _ (h w' (H'.call hst))
end
end
section
open Go.RowKit Go.Maps
theorem xp {α:Type} (enc:α->List Value) (e:TypeId) (k:Nat) (v:Value) (xs:List α) (w:World):(zi enc e k v xs).ho w=w.ownsRow 0 e k v xs.length (zX enc xs):=by unfold zi;rfl
theorem q9 {α:Type} (enc:α->List Value) (e:TypeId) (k:Nat) (v:Value) (xs:List α):(zi enc e k v xs).fp=v.ownBlock.toList:=by unfold zi;rfl
theorem QM {α:Type} {enc:α->List Value} {t ty e:TypeId} (hte:wY t=some e) {z:Value} {k bytes:Nat} (hi:vm e=some (z,k,bytes)) (hz:z.cells.size=k) (hk0:0<k) (hb0:0<bytes)
  {v y:Value} {xs ys:List α} {w:World} (hx:(zi enc e k v xs).ho w) (hy:(zi enc e k y ys).ho w) (hk:∀ x,(enc x).length=k) (h1:∀ x,∀ u∈enc x,u.oneCell'=true) (hb:(xs.length+ys.length)*bytes<=140737488355328) :
  ∃ v' w',(Builtin.append_ #[t,t] ty #[v,y]).run z6 w=.ok v' w'∧St w (zi enc e k v xs).fp [zi enc e k v' (xs++ys)] w':=by
 obtain ⟨i,h2,h3,h4,h5⟩:=kr hi;rw [xp] at hx hy;rcases hy.2 with ⟨rfl,hn⟩|⟨g,cap,cur,rfl,_,hg,_,_,hcs,htake⟩
 ·have hr:=run_append_owned_none (P:=z6) (w:=w) 0 t ty e i k (wB hte) h2 v xs.length (zX enc xs) hx;have hys:ys=[]:=qI hn;subst hys;refine ⟨v,w,hr,?_⟩;rw [xH];exact St.one (by rw [xp];exact hx)
 ·obtain ⟨v',w',hr,hst⟩:=Z1 (P:=z6) t ty e i z k bytes (wB hte) h2 h3 h4 h5 hz hk0 v xs.length (zX enc xs) hx ⟨g,0,none⟩ ys.length cap (zX enc ys) (qz enc k hk ys) (World.ownsRow.cells hy rfl) (fun u hu=>by
   obtain ⟨x,_,hx⟩:=qP.1 hu;exact h1 x u hx) hb hb0
  refine ⟨v',w',hr,?_⟩;unfold zi;rw [zN,show zX enc (xs++ys)=zX enc xs++zX enc ys by simp [zX]];exact hst
section
variable {ops:Array Oper} {o:Oper} {a:Act} {w w0:World} {M:List Nat} {L R:List As} {Rr:Value->World->Prop} {ty:TypeId} {x y:Operand}
theorem StStep.val {P:Program} {v:Value} {w':World} (hw:Region.wanted o (yielded ops a.tmps)=true) (hr:(execOp a.eval o).run P w=.ok (.value v) w') (h:Rr v w'):StStep P ops o a w Rr:=by
 unfold StStep;rw [if_pos hw];unfold Jj;rw [hr];exact h
theorem StStep.cellT (hw:Region.wanted o (yielded ops a.tmps)=true) (ho:o.op=.load ty x) {g off:Nat} (hx:a.eval x=.pointer (some ⟨g,off,none⟩)) {cs:Array Value} {t:TypeId} {fr:Nat×Nat} (hg:w.heap[g]?=some (.cells cs t fr))
  (hr:ja ty=true) {v:Value} (hv:nth cs.toList off=some v) (h:Rr v w):StStep z6 ops o a w Rr :=
 StStep.val hw (by unfold execOp;simp only [ho,hx,Sem.run_bind,ke (xz hr) hg (by rw [Zf] at hv;simpa using hv),Result.andThen_ok];rfl) h
theorem StStep.wholeT (hw:Region.wanted o (yielded ops a.tmps)=true) (ho:o.op=.load ty x) {g:Nat} (hx:a.eval x=.pointer (some ⟨g,0,none⟩)) {cs:Array Value} {t:TypeId} {fr:Nat×Nat} (hg:w.heap[g]?=some (.cells cs t fr))
  (hr:wK ty cs.size=true) (h:Rr (.agg cs) w):StStep z6 ops o a w Rr :=
 StStep.val hw (by
  have hl:=xY (yR hr) hg (o:=0) (vs:=cs.toList) (by simp only [y8];exact zM (by simp)) (by simp);unfold execOp;simp only [ho,hx,Sem.run_bind,hl,Result.andThen_ok,Array.toArray_toList];rfl) h
theorem StStep.slice1 {α:Type} {enc:α->List Value} {t e:TypeId} (H:St w0 M L w) (hw:Region.wanted o (yielded ops a.tmps)=true) (ho:o.op=.buildSlice t 1 #[(0,x)]) (hte:wY t=some e) {z:Value} {k bytes:Nat} (hi:vm e=some (z,k,bytes)) (hk0:Xa 1 k=true) (hk1:Xa k 16777216=true)
  {v:Value} (hx:xL a x=some v) {cs:Array Value} (hc:wH v=some cs) (hs:cs.size=k) (x0:α) (he:cs.toList=enc x0) (hk:∀ x,(enc x).length=k)
  (h:∀ b w',St w0 M (zi enc e k (.slice (some ⟨b,0,none⟩) 1 1) [x0]::L) w'->Rr (.slice (some ⟨b,0,none⟩) 1 1) w'):StStep z6 ops o a w Rr :=
 StStep.val hw (by unfold execOp;simp only [ho,jt,qU,k6,xR hx,Sem.run_bind,YJ hte hi hk0 hk1 hc hs,Result.andThen_ok];rfl)
  (h _ _ ((H.alloc (.cells cs e)).conv (by rw [q9,qi];rfl) fun hb=>jy (xs:=[x0]) (by rw [yB] at hb;exact hb) (by simp [maxLen]) (by simp [zX,he]) hk))
theorem StStep.append {α:Type} {enc:α->List Value} {t e:TypeId} (hw:Region.wanted o (yielded ops a.tmps)=true) (ho:o.op=.call ⟨.builtin .append,#[x,y],#[t,t]⟩) (hte:wY t=some e) {z:Value} {k bytes:Nat} (hi:vm e=some (z,k,bytes)) (hz:z.cells.size=k) (hk0:0<k) (hb0:0<bytes)
  {v u:Value} {xs ys:List α} (hx:xL a x=some v) (hy:xL a y=some u) (H:St w0 M (zi enc e k v xs::L) w) (hu:(zi enc e k u ys).ho w) (hk:∀ x,(enc x).length=k) (h1:∀ x,∀ u∈enc x,u.oneCell'=true) (hb:(xs.length+ys.length)*bytes<=140737488355328)
  (h:∀ v' w',St w0 M (zi enc e k v' (xs++ys)::L) w'->Rr v' w'):StStep z6 ops o a w Rr:=by
 obtain ⟨v',w',hr,hst⟩:=QM (ty:=o.type) hte hi hz hk0 hb0 (H.ho _ zS) hu hk h1 hb;exact StStep.val hw (by unfold execOp;simp only [ho,resolve,invoke,builtin,Sem.run_bind,Sem.run_pure,Result.andThen_ok,jt,qU,k6,xR hx,xR hy,hr]) (h _ _ (H.call hst))
theorem StStep.storeT {g:Nat} (hw:Region.wanted o (yielded ops a.tmps)=true) (ho:o.op=.store ty x y) (hx:a.eval x=.pointer (some ⟨g,0,none⟩)) {cs':Array Value} (hy:xL a y=some (.agg cs')) (hr:wK ty cs'.size=true) (h1:QB cs'.toList=true)
  {cs:Array Value} {t:TypeId} (H:St w0 M (blk g (.cells cs t)::L) w) (hl:cs.size=cs'.size) (h:∀ w',St w0 M (blk g (.cells cs' t)::L) w'->Rr undef w'):StStep z6 ops o a w Rr:=by
 unfold StStep;rw [if_pos hw];have hg:w.heap[g]?=some (.cells cs t):=H.at Pick.here;have hr':=kU (P:=z6) w g 0 t ty cs (.agg cs') hg (kM (yR hr)) (by simp [Value.cells];omega) (fun u hu=>by simpa using Array.all_eq_true'.1 (ZI h1) u (by simpa [Value.cells] using hu));have e:(cs.toList.take 0++(Value.agg cs').cells.toList++cs.toList.drop (0+(Value.agg cs').cells.size)).toArray=cs':=by
  simp only [Value.cells,jG,z8,qA];rw [xg (by simp;omega)];simp
 rw [e] at hr';unfold Jj execOp;simp only [ho,hx,xR hy,Instr.storeAt,Instr.sureAddr,Sem.run_bind,Sem.run_pure,Result.andThen_ok,hr'];exact h _ (H.setRow Upd.here)
end
end
section
open Go.RowKit
theorem PS:(∀ (ps:List (Nat×Tmp)) (vals:Nat->Value) (a:Act),xC ps vals a=ps.foldl (fun a p=>a.put (some p.2) (vals p.1)) a)∧(∀ (f:Act->Nat×Tmp->Act) (b:Act),List.foldl f b []=b)∧(∀ (f:Act->Nat×Tmp->Act) (b:Act) (p:Nat×Tmp) (ps:List (Nat×Tmp)),List.foldl f b (p::ps)=List.foldl f (f b p) ps) ∧
  (∀ (a:Act) (t:Tmp) (v:Value),a.put (some t) v={ a with tmps:=a.tmps.setIfInBounds t v })∧(∀ (l:List Value) (i:Nat) (v:Value),l.toArray.setIfInBounds i v=(l.set i v).toArray)∧(∀ (a b:Value) (l:List Value),(a::l).set 0 b=b::l)∧(∀ (a b:Value) (l:List Value) (n:Nat),(a::l).set (n+1) b=a::l.set n b) ∧
  (∀ l:List Oper,l.drop 0=l)∧(∀ (n:Nat) (o:Oper) (l:List Oper),(o::l).drop (n+1)=l.drop n) :=
 ⟨fun _ _ _=>rfl,fun _ _=>rfl,fun _ _ _ _=>rfl,fun _ _ _=>rfl,fun l i v=>zd l i v,fun _ _ _=>rfl,fun _ _ _ _=>rfl,fun _=>rfl,fun _ _ _=>rfl⟩
theorem CA:(∀ (Cs:List ((Nat->Value)->World->Prop)) (s:Nat) (vals:Nat->Value) (w:World),cAt Cs s vals w=Cs.getD s (fun _ _=>True) vals w)∧(∀ (C d:(Nat->Value)->World->Prop) (Cs:List ((Nat->Value)->World->Prop)),(C::Cs).getD 0 d=C)∧(∀ (C d:(Nat->Value)->World->Prop) (Cs:List ((Nat->Value)->World->Prop)) (n:Nat),(C::Cs).getD (n+1) d=Cs.getD n d) ∧
  (∀ (n:Nat) (l:List Nat),(n::l).length=l.length+1)∧([]:List Nat).length=0 :=
 ⟨fun _ _ _ _=>rfl,fun _ _ _=>rfl,fun _ _ _ _=>rfl,fun _ _=>rfl,rfl⟩
theorem GF:(∀ (Ss:List GS) (vals:Nat->Value),kY Ss vals []=True)∧(∀ (Ss:List GS) (vals:Nat->Value) (i:Nat) (is:List Nat),kY Ss vals (i::is)=((Ss.getD i ⟨[],fun _ _=>True⟩).R (vals i) ((Ss.getD i ⟨[],fun _ _=>True⟩).D.map vals)∧kY Ss vals is)) ∧
  (∀ (C d:GS) (Cs:List GS),(C::Cs).getD 0 d=C)∧(∀ (C d:GS) (Cs:List GS) (n:Nat),(C::Cs).getD (n+1) d=Cs.getD n d)∧(∀ p:Prop,(True∧p)=p)∧(∀ p:Prop,(p∧True)=p)∧(∀ n:Nat,zl n=zl.loop n [])∧(∀ l:List Nat,zl.loop 0 l=l)∧(∀ (n:Nat) (l:List Nat),zl.loop (n+1) l=zl.loop n (n::l)) :=
 ⟨fun _ _=>rfl,fun _ _ _ _=>rfl,fun _ _ _=>rfl,fun _ _ _ _=>rfl,fun p=>true_and p,fun p=>and_true p,fun _=>rfl,fun _=>rfl,fun _ _=>rfl⟩
theorem StStep.celC {ops:Array Oper} {a:Act} {w:World} {o:Oper} {Rr:Value->World->Prop} {ty:TypeId} {x:Operand} (hw:Region.wanted o (yielded ops a.tmps)=true) (ho:o.op=.load ty x) {g off:Nat} (hx:a.eval x=.pointer (some ⟨g,off,none⟩)) (hr:ja ty=true) {v:Value} (hc:w.cell? ⟨g,off,none⟩=some v) (h:Rr v w):StStep z6 ops o a w Rr :=
 StStep.val hw (by
  have hr:=xz hr;unfold wG at hr;simp only [zf,beq_iff_eq] at hr;have hl:(Instr.loadAt ty (.pointer (some ⟨g,off,none⟩))).run z6 w=.ok v w:=by
   cases hu:z6.underlying ty with
   |none=>simp [hu] at hr
   |some d =>
    have hagg:(isAgg ty).run z6 w=.ok false w:=by
     unfold isAgg;rw [Sem.run_bind,run_underlying hu w];simp only [hu] at hr;cases d <;> simp_all
    simp [Instr.loadAt,Instr.sureAddr,loadVar,Sem.run_bind,hagg,run_load,hc]
  unfold execOp;simp only [ho,hx,Sem.run_bind,hl,Result.andThen_ok];rfl) h
theorem lk {p:Prop} (h:p:=by first|refine StStep.cellT rfl rfl rfl gt rfl rfl ⟨rfl,HC⟩|refine StStep.wholeT rfl rfl rfl gt rfl ⟨rfl,HC⟩|refine StStep.celC rfl rfl rfl rfl kc ⟨rfl,HC⟩):p:=h
theorem ql {p:Prop} (h:p:=by
 intro vals wx hd HC;first|(simp only [GF] at hd;simp only [PS,hd];clear hd)|(clear hd;simp only [PS])
 have H:=HC;simp only [CA] at H;first|exact lk|(obtain ⟨_,H⟩:=H;first|exact lk|(obtain ⟨_,H⟩:=H;first|exact lk|(obtain ⟨_,H⟩:=H;first|exact lk|(obtain ⟨_,H⟩:=H;first|exact lk|(obtain ⟨_,H⟩:=H;exact lk)))))):p:=h
theorem qo {p:Prop} (h:p:=by
 intro vals wx hd HC;first|(simp only [GF] at hd;simp only [PS,hd];clear hd)|(clear hd;simp only [PS])
 go_simp;first|exact HC|exact ⟨rfl,HC⟩|exact ⟨IntWalk.i64_in _ (by omega),HC⟩):p:=h
end
end Go.Proofs.YtminpdngkjlehaaDoor
