/-
  Part 1 of the texts behind the statements of this seat: walks and laws Lib, Grow, Qt, Qa, Rw, Sep, Sq, Rg, Ty, Sr, Sm, Rq, Rd, Rf, Num, Sh. Conditions: as each states.
-/
import Derived.BigQuiet
import Derived.BigRegion
import Derived.Deep.Draws
import Derived.Deep.MidRow
import Derived.Deep.RegionWith
import Derived.DeepKeys5
import Derived.Great.BuildSlice
import Derived.Laws.AppendOwn
import Derived.Laws.CopyRow
import Derived.Laws.OwnMore
import Derived.Lib.Hide
import Derived.Lib.QuietBelow
import Derived.Maps.Keyed
import Derived.OwnWalk
import Derived.Shelf.Bits.Mul64
import Derived.StillTail
import Derived.Test.YtgnppnokkdghcaaGreatDoorProg
import Derived.Test.YtgnppnokkdghcaaGreatDoorRows
import Derived.WalkKit
set_option linter.unusedSimpArgs false
set_option linter.unusedVariables false
set_option maxRecDepth 100000
set_option maxHeartbeats 80000000
open Array renaming any_eq_true'→vf,ext_getElem?→yr,getD_eq_getD_getElem?→zD,getElem?_eq_none→qw,getElem?_eq_some_iff→yV,getElem?_setIfInBounds→XR,getElem?_setIfInBounds_ne→zz,getElem?_setIfInBounds_self→jI,replicate→J7,setIfInBounds_eq_of_size_le→Yh
open Bool renaming and_eq_true→zu,not_eq_true'→Zv,or_eq_true→vg
open Go.Proofs.Tryz renaming prog→zb
open List renaming Perm→wg,all_eq_true→zF,append_assoc→zQ,append_nil→qO,cons→Zq,cons_append→zo,contains_eq_mem→w6,drop_of_length_le→yo,drop_succ_cons→wQ,drop_zero→yw,eq_nil_of_length_eq_zero→qe,flatMap_cons→zt,flatMap_nil→wW,foldl_cons→zB,foldl_nil→zx,getElem?_append→yS,getElem?_append_left→qv,getElem?_append_right→yd,getElem?_cons_succ→yN,getElem?_cons_zero→Q9,getElem?_drop→yh,getElem?_eq_some_iff→xB,getElem?_map→yf,getElem?_replicate→x4,getElem?_take→wh,length→ym,length_append→zi,length_cons→zw,length_replicate→qr,length_take→qg,map_congr_left→Ym,map_cons→zX,map_nil→ye,map_toArray→xo,mem_append→zl,mem_cons→zL,mem_cons_of_mem→qT,mem_cons_self→zN,mem_filter→qD,mem_map→qY,mem_of_getElem?→zy,mem_range→zJ,mem_singleton→Zx,nil_append→zv,nodup_append→yT,pairwise_append→j6,pairwise_cons→qu,perm_ext_iff_of_nodup→vu,range→zk,range_succ→vh,replicate→zd,replicate_succ→zS,setIfInBounds_toArray→zf,size_toArray→XV,take_of_length_le→qp,take_zero→jA
open Nat renaming add_assoc→wA,add_comm→kf,add_mul→xl,beq→Zz,eq_of_beq_eq_true→xL,le_mul_of_pos_right→jg,le_of_ble_eq_true→QJ,le_of_not_lt→kQ,le_refl→zr,le_trans→qs,lt_of_lt_of_le→jN,lt_or_ge→yI,min_eq_left→kF,mod_eq_of_lt→xI,mod_lt→qM,mul_assoc→Zo,mul_le_mul_right→y9,mul_mod→Yo,one_mul→QK,strongRecOn→yJ,sub_self→QL,succ_eq_add_one→J9,zero_add→qQ,zero_le→qy,zero_mul→QM
open Option renaming map_some→Qb,some→yk
namespace Go.Proofs.YtgnppnokkdghcaaGreatDoor
section
open Go.RowKit Go.Maps
theorem zh {P : Prop} (h : P) : Hid P := Lib.hid h
theorem za {a b : Prop} (x : a) (y : b) : a ∧ b := ⟨x, y⟩
abbrev zm := @Calls.mono
abbrev zg := @List.getElem?_eq_getElem
theorem zn {P Q : Prop} (p : P) (h : P → Q := by intro h; simp only [zo, zv] at h; exact h) : Q := h p
end
section
open Go.RowKit
section
variable {P:Program} {ops:Array Oper} {rest:List Oper} {o:Oper} {a:Act} {w:World} {Q:Exit->Act->World->Prop}
theorem vY (hgd:o.guard=none) (ty:TypeId) (ho:o.op=.alloc ty) (arr:Array Value)
  (hz:∀ w,(zeroValue ty).run P w=.ok (.agg arr) w)
  (h:wpList P ops Q rest (a.put o.dst (.pointer (some ⟨w.heap.size,0,none⟩))) (w.alloc (.cells arr ty))) :
  wpList P ops Q (o::rest) a w :=
 wpList_plain hgd fun _ hK=>by
  unfold Oper.wp execOp;simp only [ho,Instr.alloc,Sem.run_bind,hz,Result.andThen_ok,newVar,newRow,Value.cells,run_newObj_alloc,Sem.run_pure];exact hK _ _ h
theorem we (hgd:o.guard=none) (ty:TypeId) (x y:Operand) (ho:o.op=.store ty x y)
  (g:Nat) (hx:a.eval x=.pointer (some ⟨g,0,none⟩)) (cs:Array Value) (hy:a.eval y=.agg cs) (t:TypeId) (old:Array Value)
  (hg:w.heap[g]?=some (.cells old t)) (hi:(P.info? ty).map (·.size)=some cs.size) (hsz:old.size=cs.size) (h1:cs.all (·.oneCell')=true)
  (h:wpList P ops Q rest (a.put o.dst undef) (w.setRow g cs)):wpList P ops Q (o::rest) a w :=
 wpList_plain hgd fun _ hK=>by
  unfold Oper.wp execOp;simp only [ho,hx,hy,Instr.storeAt,Instr.sureAddr,Sem.run_bind,Sem.run_pure,Result.andThen_ok,run_storeVar_row w g t ty old cs hg hi hsz h1];exact hK _ _ h
end
theorem V4 {B:Nat} {w w':World} (h:Below B w w') {g:Nat} {o:Obj} (hB:g<B) (hg:w.heap[g]?=some o):w'.heap[g]?=some o:=(h.block g hB).trans hg
theorem xq {w w':World} (h:Below w.heap.size w w') {g:Nat} {o:Obj} (hg:w.heap[g]?=some o):w'.heap[g]?=some o:=V4 h (lt_of_block hg) hg
theorem Vp (w:World) (o:Obj):(w.alloc o).heap[w.heap.size]?=some o:=heap_alloc_new w o
theorem Kw (w:World) (o:Obj) (g:Nat) (hg:g=w.heap.size):(w.alloc o).heap[g]?=some o:=by subst hg;exact heap_alloc_new w o
theorem kI (w:World) (o:Obj) (g:Nat) (hg:g<w.heap.size):(w.alloc o).heap[g]?=w.heap[g]?:=_root_.Go.heap_alloc_old w o hg
theorem wH {B:Nat} {a w:World} (h:Below B a w) (n:Nat):Below B a (w.drewN n):=⟨h.os,h.tape,h.output,h.size,h.block⟩
theorem KN (w:World) (old cs:Array Value) (t:TypeId) (g:Nat) (hg:g=w.heap.size):(w.alloc (.cells old t)).setRow g cs=w.alloc (.cells cs t):=by
 subst hg;unfold World.setRow World.alloc;congr 1
 apply yr;intro k;rw [Array.getElem?_modify];by_cases hk:w.heap.size=k
 ·subst hk;simp
 ·have hk':k≠w.heap.size:=fun e=>hk e.symm
  simp [hk,hk',Array.getElem?_push]
end
section
open Go.RowKit
section
variable {P:Program} {ops:Array Oper}
def y8 (ops:Array Oper) (i:Nat):Option Tmp:=(ops[i]?).bind (·.dst)
def zZ (ops:Array Oper) (vals:Nat->Value) (is:List Nat) (a:Act):Act:=is.foldl (fun a i=>a.put (y8 ops i) (vals i)) a
theorem k7 (vals:Nat->Value) (is:List Nat) (i:Nat) (a:Act):zZ ops vals (is++[i]) a=(zZ ops vals is a).put (y8 ops i) (vals i):=by simp [zZ]
theorem WH (a:Act) (d:Option Tmp) (v:Value):(a.put d v).tmps.size=a.tmps.size:=by cases d <;> simp [Act.put]
theorem put_defers (a:Act) (d:Option Tmp) (v:Value):(a.put d v).defers=a.defers:=by cases d <;> rfl
theorem JP (vals:Nat->Value):∀ (is:List Nat) (a:Act),(zZ ops vals is a).tmps.size=a.tmps.size
 |[],_=>rfl
 |i::is,a=>by
  have:=JP vals is (a.put (y8 ops i) (vals i));simpa [zZ,WH] using this
theorem yR (vals:Nat->Value):∀ (is:List Nat) (a:Act),(zZ ops vals is a).defers=a.defers
 |[],_=>rfl
 |i::is,a=>by
  have:=yR vals is (a.put (y8 ops i) (vals i));simpa [zZ,put_defers] using this
theorem xW {vals vals':Nat->Value}:∀ (is:List Nat) (a:Act),(∀ i∈is,vals i=vals' i)->zZ ops vals is a=zZ ops vals' is a
 |[],_,_=>rfl
 |i::is,a,h=>by
  have:=xW is (a.put (y8 ops i) (vals i)) fun j hj=>h j (qT _ hj)
  simp only [zZ,zB] at this ⊢;rw [this,h i (zN ..)]
theorem wK (vals:Nat->Value) (t:Tmp):∀ (is:List Nat) (a:Act),(∀ i∈is,y8 ops i≠some t)->(zZ ops vals is a).tmps[t]?=a.tmps[t]?
 |[],_,_=>rfl
 |i::is,a,h=>by
  have:=wK vals t is (a.put (y8 ops i) (vals i)) fun j hj=>h j (qT _ hj)
  simp only [zZ,zB] at this ⊢;rw [this];have h0:=h i (zN ..);cases hd:y8 ops i with
  |none=>rfl
  |some d =>
   have hne:d≠t:=fun e=>h0 (by rw [hd,e])
   simp [Act.put,zz hne]
theorem vz (vals:Nat->Value) (t:Tmp) (i:Nat) (hi:y8 ops i=some t):∀ (is:List Nat) (a:Act),i∈is->(∀ j∈is,y8 ops j=some t->j=i) ->
  (zZ ops vals is a).tmps[t]?=if t<a.tmps.size then some (vals i) else none
 |[],_,h,_=>by cases h
 |j::is,a,h,hu=>by
  by_cases hm:i∈is
  ·have:=vz vals t i hi is (a.put (y8 ops j) (vals j)) hm fun k hk=>hu k (qT _ hk)
   simp only [zZ,zB] at this ⊢;rw [this,WH]
  ·obtain rfl:i=j:=by
    cases h with
    |head=>rfl
    |tail _ h=>exact absurd h hm
   have:=wK (ops:=ops) vals t is (a.put (y8 ops i) (vals i)) fun k hk e=>hm (by rw [← hu k (qT _ hk) e];exact hk)
   simp only [zZ,zB] at this ⊢;rw [this,hi];by_cases ht:t<a.tmps.size
   ·simp [Act.put,ht]
   ·simp [Act.put,ht]
theorem vV (vals:Nat->Value) (t:Tmp) (hu:∀ i j,y8 ops i=some t->y8 ops j=some t->i=j) (is js:List Nat) (a:Act)
  (h:∀ i,y8 ops i=some t->(i∈is↔i∈js)):(zZ ops vals is a).tmps[t]?=(zZ ops vals js a).tmps[t]?:=by
 by_cases he:∃ i∈is,y8 ops i=some t
 ·obtain ⟨i,hi,hd⟩:=he;rw [vz vals t i hd is a hi fun j _ hj=>hu j i hj hd,vz vals t i hd js a ((h i hd).1 hi) fun j _ hj=>hu j i hj hd]
 ·have h1:∀ i∈is,y8 ops i≠some t:=fun i hi e=>he ⟨i,hi,e⟩
  have h2:∀ i∈js,y8 ops i≠some t:=fun i hi e=>he ⟨i,(h i e).2 hi,e⟩
  rw [wK vals t is a h1,wK vals t js a h2]
abbrev Grew (w w':World):Prop:=Below w.heap.size w w'
theorem Grew.trans {a b c:World} (h:Grew a b) (k:Grew b c):Grew a c:=Below.trans h (Below.mono k h.size)
def vQ (P:Program) (w:World) (R:Value->World->Prop):Result Next->Prop
 |.ok (.value v) w'=>Grew w w'∧R v w'
 |.ok .skip w'=>Grew w w'∧R undef w'
 |.ok (.enter f args) w'=>Grew w w'∧Calls P f args w' fun e w''=>∃ v,e=.returned v∧Grew w' w''∧R v w''
 |_=>False
def Zb (P:Program) (o:Oper) (a:Act) (w:World) (R:Value->World->Prop):Prop:=vQ P w R ((execOp a.eval o).run P w)
def Zl (ops:Array Oper) (i k:Nat):Bool :=
 match ops[i]? with
 |none=>false
 |some o=>o.after.any fun e=>Region.binds .any e&&e.on==k
def qm (ops:Array Oper) (k:Nat):List Nat :=
 match ops[k]? with
 |none=>[]
 |some o=>(zk ops.size).filter fun i=>(match y8 ops i with|some t=>(o.looksAt ops).contains t|none=>false) && !Zl ops i k
def x9 (ops:Array Oper):Nat->Nat->Nat->Bool
 |0,_,_=>false
 |f+1,k,i=>match ops[k]? with
  |none=>false
  |some o=>o.after.any fun e=>Region.binds .any e&&(e.on==i || x9 ops f e.on i)
def Wg (ops:Array Oper) (m:Nat) (T:List Nat:=[]):Bool :=
 Region.noSelect ops&&decide (m<=ops.size) &&
 ((zk ops.size).all fun i=>(zk ops.size).all fun j=>decide (i=j) || (y8 ops i).isNone || y8 ops i != y8 ops j) &&
 ((zk ops.size).all fun k=>match ops[k]? with
  |none=>true
  |some o=>(o.after.all fun e=>!Region.binds .any e || decide (e.on<k)) &&
   ((qm ops k).all fun i=>o.after.any fun e=>Region.binds .any e&&e.on==i) &&
   (decide (k<m) || ((zk k).all fun i=>T.contains i || x9 ops ops.size k i)))
structure jy (ops:Array Oper) (m:Nat) (T:List Nat:=[]):Prop where
 sel:Region.noSelect ops=true
 le:m<=ops.size
 uniq:∀ i j t,y8 ops i=some t->y8 ops j=some t->i=j
 back:∀ (k:Nat) (o:Oper),ops[k]?=some o->∀ e∈o.after,Region.binds .any e=true->e.on<k
 deps:∀ (k:Nat) (o:Oper),ops[k]?=some o->∀ i∈qm ops k,∃ e∈o.after,Region.binds .any e=true∧e.on=i
 tail:∀ (k:Nat) (o:Oper),ops[k]?=some o->m<=k->∀ i,i<k->i ∉ T->x9 ops ops.size k i=true
theorem W9 {i:Nat} {t:Tmp} (h:y8 ops i=some t):i<ops.size:=by
 rcases yI i ops.size with h'|h'
 ·exact h'
 ·simp [y8,qw h'] at h
theorem jV {m:Nat} {T:List Nat} (h:Wg ops m T=true):jy ops m T:=by
 simp only [Wg,zu,decide_eq_true_eq] at h;obtain ⟨⟨⟨h1,h2⟩,h3⟩,h4⟩:=h;have h4':∀ (k:Nat) (o:Oper),ops[k]?=some o->_:=fun k o ho=>by
  have:=zF.1 h4 k (zJ.2 (yV.1 ho).1);rw [ho] at this;simp only [zu] at this;exact this
 refine ⟨h1,h2,fun i j t hi hj=>?_,fun k o ho e he hb=>?_,fun k o ho i hi=>?_,fun k o ho hk i hi hT=>?_⟩
 ·have:=zF.1 (zF.1 h3 i (zJ.2 (W9 hi))) j (zJ.2 (W9 hj));rw [hi,hj] at this;simpa using this
 ·have:=Array.all_eq_true_iff_forall_mem.1 (h4' k o ho).1.1 e he;rw [hb] at this;simpa using this
 ·have:=zF.1 (h4' k o ho).1.2 i hi;obtain ⟨e,he,hb⟩:=vf.1 this;simp only [zu,beq_iff_eq] at hb;exact ⟨e,he,hb.1,hb.2⟩
 ·have:=(h4' k o ho).2;have hk':¬ k<m:=(by omega);simp only [hk',decide_false,Bool.false_or] at this;have:=zF.1 this i (zJ.2 hi);simpa [hT] using this
theorem jE {order:List Nat} (hC:∀ k∈order,∀ o,ops[k]?=some o->∀ e∈o.after,Region.binds .any e=true->e.on∈order):∀ (f k i:Nat) (o:Oper),ops[k]?=some o ->
  (∀ e∈o.after,Region.binds .any e=true->e.on∈order)->x9 ops f k i=true->i∈order
 |0,_,_,_,_,_,h=>by cases h
 |f+1,k,i,o,ho,hall,h=>by
  unfold x9 at h;rw [ho] at h;obtain ⟨e,he,hb⟩:=vf.1 h;simp only [zu,vg,beq_iff_eq] at hb;have hin:=hall e he hb.1;rcases hb.2 with h1|h1
  ·rw [← h1];exact hin
  ·cases ho':ops[e.on]? with
   |none =>
    cases f with
    |zero=>cases h1
    |succ f=>unfold x9 at h1;rw [ho'] at h1;cases h1
   |some o'=>exact jE hC f e.on i o' ho' (hC e.on hin o' ho') h1
theorem XK {order:List Nat} (hC:∀ k∈order,∀ o,ops[k]?=some o->∀ e∈o.after,Region.binds .any e=true->e.on∈order) {j:Nat} (hj:j ∉ order):∀ i∈order,Zl ops i j=false:=fun i hi=>by
 cases h:Zl ops i j with
 |false=>rfl
 |true =>
  unfold Zl at h;cases ho:ops[i]? with
  |none=>rw [ho] at h;cases h
  |some o =>
   rw [ho] at h;obtain ⟨e,he,hb⟩:=vf.1 h;simp only [zu,beq_iff_eq] at hb;exact absurd (hb.2 ▸ hC i hi o ho e he hb.1) hj
theorem vE {m:Nat} {T:List Nat} (hok:jy ops m T) (k:Nat):∀ i∈zk k,Zl ops i k=false:=fun i hi=>by
 cases h:Zl ops i k with
 |false=>rfl
 |true =>
  unfold Zl at h;cases ho:ops[i]? with
  |none=>rw [ho] at h;cases h
  |some o =>
   rw [ho] at h;obtain ⟨e,he,hb⟩:=vf.1 h;simp only [zu,beq_iff_eq] at hb;have:=hok.back i o ho e he hb.1;have:=zJ.1 hi;omega
theorem mem_deps {k i:Nat} {o:Oper} {t:Tmp} (ho:ops[k]?=some o) (hi:y8 ops i=some t) (ht:t∈o.looksAt ops) (hw:Zl ops i k=false):i∈qm ops k:=by
 unfold qm;rw [ho];refine qD.2 ⟨zJ.2 (W9 hi),?_⟩;rw [hi,hw];simpa using ht
theorem jT {m k:Nat} {T:List Nat} {o:Oper} (hok:jy ops m T) (ho:ops[k]?=some o) (vals:Nat->Value) (order:List Nat) (a:Act) (hd:∀ i∈qm ops k,i∈order) (hno:∀ i∈order,Zl ops i k=false) :
  execOp (zZ ops vals order a).eval o=execOp (zZ ops vals (qm ops k) a).eval o ∧
  Region.wanted o (yielded ops (zZ ops vals order a).tmps)=Region.wanted o (yielded ops (zZ ops vals (qm ops k) a).tmps):=by
 have key:∀ t,t∈o.looksAt ops->(zZ ops vals order a).tmps[t]?=(zZ ops vals (qm ops k) a).tmps[t]?:=fun t ht =>
  vV vals t (fun i j=>hok.uniq i j t) order (qm ops k) a fun i hi=>⟨fun h=>mem_deps ho hi ht (hno i h),fun h=>hd i h⟩
 refine ⟨execOp_congr o (fun cs b=>Region.noSelect_spec hok.sel k o cs b ho) fun x hx=>?_,?_⟩
 ·cases x with
  |tmp t =>
   have:=key t (List.mem_append_left _ (List.mem_filterMap.2 ⟨.tmp t,by simpa using hx,rfl⟩));show (zZ ops vals order a).tmps.getD t undef=(zZ ops vals (qm ops k) a).tmps.getD t undef
   rw [zD,zD,this]
  |const v=>rfl
  |global g=>rfl
  |func f=>rfl
 ·unfold Region.wanted;cases hg:o.guard with
  |none=>rfl
  |some gw =>
   obtain ⟨g,want⟩:=gw;have:yielded ops (zZ ops vals order a).tmps g=yielded ops (zZ ops vals (qm ops k) a).tmps g:=by
    unfold yielded;cases ht:(ops[g]?).bind (·.dst) with
    |none=>rfl
    |some t =>
     have:=key t (List.mem_append_right _ (by simp [hg,ht]));simp [this]
   simp only [this]
theorem kD {m:Nat}:∀ {l:List Nat},l.Nodup->(∀ x∈l,x<m)->l.length<=m∧(l.length=m->∀ i,i<m->i∈l):=by
 induction m with
 |zero =>
  intro l _ h;cases l with
  |nil=>exact ⟨zr _,fun _ i hi=>by omega⟩
  |cons x l=>exact absurd (h x (zN ..)) (by omega)
 |succ m ih =>
  intro l hn h;by_cases hm:m∈l
  ·have h1:=ih (l:=l.erase m) (hn.erase m) fun x hx=>by
    have h2:=(hn.mem_erase_iff).1 hx;have:=h x h2.2;have:=h2.1;omega
   have hl:=List.length_erase_of_mem hm;have hpos:=List.length_pos_of_mem hm;refine ⟨by omega,fun he i hi=>?_⟩;by_cases him:i=m
   ·rw [him];exact hm
   ·exact List.mem_of_mem_erase (h1.2 (by omega) i (by omega))
  ·have h1:=ih (l:=l) hn fun x hx=>by
    have:=h x hx;have:x≠m:=fun e=>hm (e ▸ hx)
    omega
   exact ⟨by omega,fun he=>by omega⟩
theorem kC {m:Nat}:∀ {l:List Nat},(∀ i,i<m->i∈l)->m<=l.length:=by
 induction m with
 |zero=>intro l _;exact qy _
 |succ m ih =>
  intro l h;have hm:=h m (by omega);have:=ih (l:=l.erase m) fun i hi=>(List.mem_erase_of_ne (by omega)).2 (h i (by omega))
  have hl:=List.length_erase_of_mem hm;have hpos:=List.length_pos_of_mem hm;omega
def wJ (n m:Nat):Array Bool:=(Array.range n).map fun i=>decide (i<m)
theorem ZW (n m j:Nat) (h:j<n):(wJ n m)[j]?=some (decide (j<m)):=by simp [wJ,h]
theorem Z8 (n m:Nat):(wJ n m).size=n:=by simp [wJ]
def wB:Value->Option Nat
 |.pointer (some a)=>some a.block
 |.slice (some a) _ _=>some a.block
 |.map r=>r
 |_=>none
def Ke (v:Value) (w w':World):Prop:=∃ b,wB v=some b∧w.heap.size<=b∧b<w'.heap.size
theorem wpAny_grow {m:Nat} {T:List Nat} (hok:jy ops m T) {Q:Exit->Act->World->Prop} (R:Nat->Value->World->Prop) (F:Nat->Bool) (stable:∀ i v w w',Grew w w'->R i v w->R i v w') (w0:World) (a0:Act)
  (step:∀ k o,k<m->ops[k]?=some o->∀ vals w,Grew w0 w->(∀ i∈qm ops k,R i (vals i) w) ->
   if Region.wanted o (yielded ops (zZ ops vals (qm ops k) a0).tmps) then Zb P o (zZ ops vals (qm ops k) a0) w (fun v w'=>R k v w'∧(F k=true->Ke v w w')) else R k undef w∧F k=false)
  (fin:∀ vals w,Grew w0 w->(∀ i,i<m->R i (vals i) w)->(∀ i j,i<m->j<m->i≠j->F i=true->F j=true->wB (vals i)≠wB (vals j))->wpAny P .any ops Q (ops.size-m) (wJ ops.size m) (zZ ops vals (zk m) a0) w) :
  ∀ (d:Nat) (order:List Nat) (listed:Array Bool) (vals:Nat->Value) (w:World),d+order.length=m->order.Nodup->(∀ i∈order,i<m)->listed.size=ops.size ->
   (∀ j,j<ops.size->listed[j]?=some (decide (j∈order)))->Grew w0 w->(∀ i∈order,R i (vals i) w) ->
   (∀ i∈order,F i=true->∃ b,wB (vals i)=some b∧b<w.heap.size)->(∀ i∈order,∀ j∈order,i≠j->F i=true->F j=true->wB (vals i)≠wB (vals j)) ->
   (∀ k∈order,∀ o,ops[k]?=some o->∀ e∈o.after,Region.binds .any e=true->e.on∈order)->(∀ i∈T,i∈order) ->
   wpAny P .any ops Q (ops.size-order.length) listed (zZ ops vals order a0) w:=by
 intro d;induction d with
 |zero =>
  intro order listed vals w hd hn hlt hsz hl hg hR hF1 hF2 hC hTo;have hlen:order.length=m:=(by omega);have hall:=(kD hn hlt).2 hlen;have e1:listed=wJ ops.size m:=by
   apply yr;intro j;by_cases hj:j<ops.size
   ·rw [hl j hj,ZW _ _ _ hj];congr 1
    have:(j∈order)↔j<m:=⟨hlt j,hall j⟩
    simp [this]
   ·rw [qw (by omega),qw (by rw [Z8];omega)]
  have e2:zZ ops vals order a0=zZ ops vals (zk m) a0:=by
   have ht:(zZ ops vals order a0).tmps=(zZ ops vals (zk m) a0).tmps:=by
    apply yr;intro t;exact vV vals t (fun i j=>hok.uniq i j t) _ _ _ fun i _=>by rw [zJ];exact ⟨hlt i,hall i⟩
   have hdf:(zZ ops vals order a0).defers=(zZ ops vals (zk m) a0).defers:=(by rw [yR,yR]);generalize zZ ops vals order a0=x at *;generalize zZ ops vals (zk m) a0=y at *;cases x;cases y;simp only at ht hdf;subst ht hdf;rfl
  rw [e1,e2,hlen];exact fin vals w hg (fun i hi=>hR i (hall i hi)) fun i j hi hj=>hF2 i (hall i hi) j (hall j hj)
 |succ d ih =>
  intro order listed vals w hd hn hlt hsz hl hg hR hF1 hF2 hC hTo;have hm:m<=ops.size:=hok.le;obtain ⟨f,hf⟩:∃ f,ops.size-order.length=f+1:=⟨ops.size-order.length-1,by omega⟩
  rw [hf];have hex:∃ i,i<m∧i ∉ order:=Classical.byContradiction fun h=>by
   have:∀ i,i<m->i∈order:=fun i hi=>Classical.byContradiction fun h'=>h ⟨i,hi,h'⟩
   have:=kC this;omega
  have hT:∀ j,listed.getD j false=true->j∈order:=fun j hj=>by
   by_cases hj2:j<ops.size
   ·rw [zD,hl j hj2] at hj;simpa using hj
   ·rw [zD,qw (by omega)] at hj;simp at hj
  have hF:∀ j,j<ops.size->listed.getD j true=false->j ∉ order:=fun j hj2 hj=>by
   rw [zD,hl j hj2] at hj;simpa using hj
  refine ⟨fun h0=>?_,fun j hj=>?_⟩
  ·-- the least that is not listed may come up
   exfalso;obtain ⟨i,hi,hno⟩:=hex;have:∀ i,i<m->i ∉ order->False:=fun i=>by
    induction i using yJ with
    |_ i ihi =>
     intro hi hno;obtain ⟨o,ho⟩:∃ o,ops[i]?=some o:=⟨ops[i],by simp⟩
     have hr:i∈Region.ready .any ops listed:=mem_ready.2 ⟨by rw [zD,hl i (by omega)];simp [hno],o,ho,fun e he hb=>by
      have hlt':=hok.back i o ho e he hb;by_cases hin:e.on∈order
      ·rw [zD,hl _ (by omega)];simp [hin]
      ·exact (ihi e.on hlt' (by omega) hin).elim⟩
     rw [h0] at hr;cases hr
   exact this i hi hno
  ·obtain ⟨hun,o,ho,hall⟩:=mem_ready.1 hj;have hjn:j<ops.size:=(yV.1 ho).1;have hjo:j ∉ order:=hF j hjn hun;have hjm:j<m:=by
    rcases yI j m with h|h
    ·exact h
    ·obtain ⟨i,hi,hno⟩:=hex;exact absurd (jE hC ops.size j i o ho (fun e he hb=>hT e.on (hall e he hb)) (hok.tail j o ho h i (by omega) fun hT'=>hno (hTo i hT'))) hno
   have hdeps:∀ i∈qm ops j,i∈order:=fun i hi=>by
    obtain ⟨e,he,hb,hon⟩:=hok.deps j o ho i hi;exact hT i (by rw [← hon];exact hall e he hb)
   obtain ⟨hex1,hw1⟩:=jT hok ho vals order a0 hdeps (XK hC hjo);have hs:=step j o hjm ho vals w hg fun i hi=>hR i (hdeps i hi)
   have next:∀ v w',Grew w w'->R j v w'->(F j=true->Ke v w w')->wpAny P .any ops Q f (listed.setIfInBounds j true) ((zZ ops vals order a0).put o.dst v) w':=fun v w' hgw hRv hfr=>by
    have hne:∀ i∈order,(fun i=>if i=j then v else vals i) i=vals i:=fun i hi=>by
     have:i≠j:=fun e=>hjo (e ▸ hi)
     simp [this]
    have hp:(zZ ops vals order a0).put o.dst v=zZ ops (fun i=>if i=j then v else vals i) (order++[j]) a0:=by
     rw [k7,xW order a0 hne];simp [y8,ho]
    rw [hp];have hf':f=ops.size-(order++[j]).length:=(by simp;omega);rw [hf'];refine ih (order++[j]) _ _ w' (by simp;omega) (yT.2 ⟨hn,by simp,fun x hx y hy=>by simp at hy;rintro rfl;exact hjo (hy ▸ hx)⟩)
     (fun i hi=>?_) (by simpa using hsz) (fun i hi=>?_) (hg.trans hgw) (fun i hi=>?_) (fun i hi hFi=>?_) (fun i hi k hk hik hFi hFk=>?_) (fun k hk o' ho' e he hb=>?_) (fun i hi=>by simp [hTo i hi])
    ·simp at hi;rcases hi with hi|hi
     ·exact hlt i hi
     ·omega
    ·by_cases hij:i=j
     ·subst hij;rw [jI];simp [show i<listed.size by omega]
     ·rw [zz (Ne.symm hij),hl i hi];simp [hij]
    ·simp at hi;rcases hi with hi|hi
     ·have:i≠j:=fun e=>hjo (e ▸ hi)
      simp only [this,if_false];exact stable i _ _ _ hgw (hR i hi)
     ·subst hi;simpa using hRv
    ·simp at hi;rcases hi with hi|hi
     ·have:i≠j:=fun e=>hjo (e ▸ hi)
      simp only [this,if_false];obtain ⟨b,hb,hlt'⟩:=hF1 i hi hFi;exact ⟨b,hb,jN hlt' hgw.size⟩
     ·subst hi;obtain ⟨b,hb,_,hlt'⟩:=hfr hFi;exact ⟨b,by simpa using hb,hlt'⟩
    ·simp at hi hk;have old:∀ i,i∈order->F i=true->F j=true->wB (vals i)≠wB v:=fun i hi hFi hFj=>by
      obtain ⟨b,hb,hlt'⟩:=hF1 i hi hFi;obtain ⟨c,hc,hge,_⟩:=hfr hFj;rw [hb,hc];intro e;have:b=c:=yk.inj e;omega
     by_cases h1:i=j
     ·subst h1;have h2:¬ k=i:=fun e=>hik e.symm
      have hk':k∈order:=hk.resolve_right h2;simp only [h2,if_true,if_false];exact fun e=>old k hk' hFk hFi e.symm
     ·have hi':i∈order:=hi.resolve_right h1;by_cases h2:k=j
      ·subst h2;simp only [h1,if_true,if_false];exact old i hi' hFi hFk
      ·have hk':k∈order:=hk.resolve_right h2;simp only [h1,h2,if_false];exact hF2 i hi' k hk' hik hFi hFk
    ·simp at hk ⊢;rcases hk with hk|hk
     ·exact .inl (hC k hk o' ho' e he hb)
     ·subst hk;obtain rfl:o'=o:=yk.inj (ho'.symm.trans ho);exact .inl (hT e.on (hall e he hb))
   unfold wpOp;simp only [ho];rw [hw1];split
   ·rename_i hw;rw [if_pos hw] at hs;refine .inl ?_;unfold Zb at hs;unfold Oper.wp;rw [hex1];generalize (execOp (zZ ops vals (qm ops j) a0).eval o).run P w=r at hs;unfold vQ at hs;unfold Oper.upon;split at hs
    ·exact next _ _ hs.1 hs.2.1 hs.2.2
    ·exact next _ _ hs.1 hs.2.1 hs.2.2
    ·exact hs.2.mono fun e w'' ⟨v,he,hg2,hv,hfr⟩=>by subst he;exact next _ _ (hs.1.trans hg2) hv hfr
    ·exact hs.elim
   ·rename_i hw;rw [if_neg hw] at hs;exact next _ _ (Below.refl _ _) hs.1 fun h=>by rw [hs.2] at h;cases h
theorem J3 {id:Nat} {Q:Exit->Act->World->Prop} {a:Act} {w:World} {l:List Oper} (m:Nat) (R:Nat->Value->World->Prop) (F:Nat->Bool) (hm:P.follows .mixedOrders=true)
  (hB:(Wg l.toArray m&&Region.seqB .any l.toArray (l.length-m) m (wJ l.length m))=true)
  (stable:∀ i v w w',Grew w w'->R i v w->R i v w')
  (step:∀ k o,k<m->l[k]?=some o->∀ vals w',Grew w w'->(∀ i∈qm l.toArray k,R i (vals i) w') ->
   if Region.wanted o (yielded l.toArray (zZ l.toArray vals (qm l.toArray k) a).tmps) then Zb P o (zZ l.toArray vals (qm l.toArray k) a) w' (fun v w''=>R k v w''∧(F k=true->Ke v w' w'')) else R k undef w'∧F k=false)
  (fin:∀ vals w',Grew w w'->(∀ i,i<m->R i (vals i) w')->(∀ i j,i<m->j<m->i≠j->F i=true->F j=true->wB (vals i)≠wB (vals j))->wpList P l.toArray Q (l.drop m) (zZ l.toArray vals (zk m) a) w'):(Code.region id l.toArray true).wp P Q a w:=by
 simp only [zu] at hB;have hok:jy l.toArray m []:=jV hB.1;have hle:m<=l.length:=(by simpa using hok.le);refine wp_region_any hm ?_;have:=wpAny_grow (P:=P) (Q:=Q) hok R F stable w a (fun k o hk ho=>step k o hk (by simpa using ho)) (fun vals w' hg hR hF=>by
  have:=wpAny_of_seq (P:=P) (md:=.any) (Q':=Q) (l.drop m) m (wJ l.length m) (zZ l.toArray vals (zk m) a) w' (fun j=>by simp [yh]) (by simpa using hB.2) (fin vals w' hg hR hF);simpa using this) m [] (J7 l.length false) (fun _=>undef) { w with drawn:=w.drawn+1 } (by simp) (by simp) (by simp) (by simp) (fun j hj=>by
   have hj':j<l.length:=(by simpa using hj);simp [hj']) (Below.drew (Below.refl _ _)) (by simp) (by simp) (by simp) (by simp) (by simp)
 simpa [zZ] using this
def yu (ps:List (Nat×Tmp)) (vals:Nat->Value) (a:Act):Act:=ps.foldl (fun a p=>a.put (some p.2) (vals p.1)) a
def Zj (ops:Array Oper) (ps:List (Nat×Tmp)):Bool:=ps.all fun p=>y8 ops p.1==some p.2
theorem kM (vals:Nat->Value):∀ (ps:List (Nat×Tmp)) (a:Act),Zj ops ps=true->yu ps vals a=zZ ops vals (ps.map (·.1)) a
 |[],_,_=>rfl
 |p::ps,a,h=>by
  simp only [Zj,List.all_cons,zu,beq_iff_eq] at h;have:=kM vals ps (a.put (some p.2) (vals p.1)) h.2;simp only [yu,zZ,zB,zX,h.1] at this ⊢;exact this
theorem vA (vals:Nat->Value):∀ (is:List Nat) (a:Act),zZ ops vals is a=zZ ops vals (is.filter fun i=>(y8 ops i).isSome) a
 |[],_=>rfl
 |i::is,a=>by
  have h1:=vA vals is (a.put (y8 ops i) (vals i));have h0:=vA vals is a;cases hd:y8 ops i with
  |none =>
   have:zZ ops vals (i::is) a=zZ ops vals is a:=by simp [zZ,hd,Act.put]
   rw [this,h0,List.filter_cons_of_neg (by simp [hd])]
  |some d =>
   rw [List.filter_cons_of_pos (by simp [hd])];simp only [zZ,zB] at h1 ⊢;exact h1
def IsV (c:Value) (v:Value) (_w:World):Prop:=v=c
theorem IsV.stable (c:Value):∀ v w w',Grew w w'->IsV c v w->IsV c v w':=fun _ _ _ _ h=>h
@[go_sem,simp] theorem grew_refl (w:World):Below w.heap.size w w=True:=by simp [Below.refl]
def IsRow (xs:Array Value) (t:TypeId) (n:Nat) (v:Value) (w:World):Prop:=∃ b,v=.slice (some ⟨b,0,none⟩) n n∧w.heap[b]?=some (.cells xs t)
theorem IsRow.stable (xs:Array Value) (t:TypeId) (n:Nat):∀ v w w',Grew w w'->IsRow xs t n v w->IsRow xs t n v w':=fun _ _ _ hg ⟨b,hv,hb⟩=>⟨b,hv,xq hg hb⟩
theorem grew_alloc (w:World) (o:Obj):Grew w (w.alloc o):=(Below.refl _ _).alloc (zr _) _
def IsBox (xs:Array Value) (t:TypeId) (v:Value) (w:World):Prop:=∃ b,v=.pointer (some ⟨b,0,none⟩)∧w.heap[b]?=some (.cells xs t)
theorem IsBox.stable (xs:Array Value) (t:TypeId):∀ v w w',Grew w w'->IsBox xs t v w->IsBox xs t v w':=fun _ _ _ hg ⟨b,hv,hb⟩=>⟨b,hv,xq hg hb⟩
end
end
section
open Go.RowKit
section
variable {P:Program} {ops:Array Oper} {C:World->Prop}
theorem wpAny_qt {m:Nat} (hok:jy ops m) {Q:Exit->Act->World->Prop} (c:Nat->Value) (a0:Act)
  (step:∀ k o,k<m->ops[k]?=some o->if Region.wanted o (yielded ops (zZ ops c (qm ops k) a0).tmps) then ∀ w,C w->o.quietAt P (zZ ops c (qm ops k) a0) C w (c k) else c k=undef)
  (fin:∀ w,C w->wpAny P .any ops Q (ops.size-m) (wJ ops.size m) (zZ ops c (zk m) a0) w) :
  ∀ (d:Nat) (order:List Nat) (listed:Array Bool) (w:World),d+order.length=m->order.Nodup->(∀ i∈order,i<m)->listed.size=ops.size ->
   (∀ j,j<ops.size->listed[j]?=some (decide (j∈order)))->C w ->
   (∀ k∈order,∀ o,ops[k]?=some o->∀ e∈o.after,Region.binds .any e=true->e.on∈order) ->
   wpAny P .any ops Q (ops.size-order.length) listed (zZ ops c order a0) w:=by
 intro d;induction d with
 |zero =>
  intro order listed w hd hn hlt hsz hl hg hC;have hlen:order.length=m:=(by omega);have hall:=(kD hn hlt).2 hlen;have e1:listed=wJ ops.size m:=by
   apply yr;intro j;by_cases hj:j<ops.size
   ·rw [hl j hj,ZW _ _ _ hj];congr 1
    have:(j∈order)↔j<m:=⟨hlt j,hall j⟩
    simp [this]
   ·rw [qw (by omega),qw (by rw [Z8];omega)]
  have e2:zZ ops c order a0=zZ ops c (zk m) a0:=by
   have ht:(zZ ops c order a0).tmps=(zZ ops c (zk m) a0).tmps:=by
    apply yr;intro t;exact vV c t (fun i j=>hok.uniq i j t) _ _ _ fun i _=>by rw [zJ];exact ⟨hlt i,hall i⟩
   have hdf:(zZ ops c order a0).defers=(zZ ops c (zk m) a0).defers:=(by rw [yR,yR]);generalize zZ ops c order a0=x at *;generalize zZ ops c (zk m) a0=y at *;cases x;cases y;simp only at ht hdf;subst ht hdf;rfl
  rw [e1,e2,hlen];exact fin w hg
 |succ d ih =>
  intro order listed w hd hn hlt hsz hl hg hC;have hm:m<=ops.size:=hok.le;obtain ⟨f,hf⟩:∃ f,ops.size-order.length=f+1:=⟨ops.size-order.length-1,by omega⟩
  rw [hf];have hex:∃ i,i<m∧i ∉ order:=Classical.byContradiction fun h=>by
   have:∀ i,i<m->i∈order:=fun i hi=>Classical.byContradiction fun h'=>h ⟨i,hi,h'⟩
   have:=kC this;omega
  have hT:∀ j,listed.getD j false=true->j∈order:=fun j hj=>by
   by_cases hj2:j<ops.size
   ·rw [zD,hl j hj2] at hj;simpa using hj
   ·rw [zD,qw (by omega)] at hj;simp at hj
  have hF:∀ j,j<ops.size->listed.getD j true=false->j ∉ order:=fun j hj2 hj=>by
   rw [zD,hl j hj2] at hj;simpa using hj
  refine ⟨fun h0=>?_,fun j hj=>?_⟩
  ·exfalso;obtain ⟨i,hi,hno⟩:=hex;have:∀ i,i<m->i ∉ order->False:=fun i=>by
    induction i using yJ with
    |_ i ihi =>
     intro hi hno;obtain ⟨o,ho⟩:∃ o,ops[i]?=some o:=⟨ops[i],by simp⟩
     have hr:i∈Region.ready .any ops listed:=mem_ready.2 ⟨by rw [zD,hl i (by omega)];simp [hno],o,ho,fun e he hb=>by
      have hlt':=hok.back i o ho e he hb;by_cases hin:e.on∈order
      ·rw [zD,hl _ (by omega)];simp [hin]
      ·exact (ihi e.on hlt' (by omega) hin).elim⟩
     rw [h0] at hr;cases hr
   exact this i hi hno
  ·obtain ⟨hun,o,ho,hall⟩:=mem_ready.1 hj;have hjn:j<ops.size:=(yV.1 ho).1;have hjo:j ∉ order:=hF j hjn hun;have hjm:j<m:=by
    rcases yI j m with h|h
    ·exact h
    ·obtain ⟨i,hi,hno⟩:=hex;exact absurd (jE hC ops.size j i o ho (fun e he hb=>hT e.on (hall e he hb)) (hok.tail j o ho h i (by omega) (by simp))) hno
   have hdeps:∀ i∈qm ops j,i∈order:=fun i hi=>by
    obtain ⟨e,he,hb,hon⟩:=hok.deps j o ho i hi;exact hT i (by rw [← hon];exact hall e he hb)
   obtain ⟨hex1,hw1⟩:=jT hok ho c order a0 hdeps (XK hC hjo);have hs:=step j o hjm ho;have next:∀ v w',C w'->v=c j->wpAny P .any ops Q f (listed.setIfInBounds j true) ((zZ ops c order a0).put o.dst v) w':=fun v w' hgw hv=>by
    subst hv;have hp:(zZ ops c order a0).put o.dst (c j)=zZ ops c (order++[j]) a0:=by
     rw [k7];simp [y8,ho]
    rw [hp];have hf':f=ops.size-(order++[j]).length:=(by simp;omega);rw [hf'];refine ih (order++[j]) _ w' (by simp;omega) (yT.2 ⟨hn,by simp,fun x hx y hy=>by simp at hy;rintro rfl;exact hjo (hy ▸ hx)⟩)
     (fun i hi=>?_) (by simpa using hsz) (fun i hi=>?_) hgw (fun k hk o' ho' e he hb=>?_)
    ·simp at hi;rcases hi with hi|hi
     ·exact hlt i hi
     ·omega
    ·by_cases hij:i=j
     ·subst hij;rw [jI];simp [show i<listed.size by omega]
     ·rw [zz (Ne.symm hij),hl i hi];simp [hij]
    ·simp at hk ⊢;rcases hk with hk|hk
     ·exact .inl (hC k hk o' ho' e he hb)
     ·subst hk;obtain rfl:o'=o:=yk.inj (ho'.symm.trans ho);exact .inl (hT e.on (hall e he hb))
   unfold wpOp;simp only [ho];rw [hw1];split
   ·rename_i hw;rw [if_pos hw] at hs;refine .inl ?_;have hs:=hs w hg;unfold Oper.quietAt at hs;unfold Oper.wp;rw [hex1];generalize (execOp (zZ ops c (qm ops j) a0).eval o).run P w=r at hs;cases r with
    |ok n w' =>
     cases n <;> simp only [Oper.quietUpon] at hs <;> simp only [Oper.upon]
     case value u=>obtain ⟨e1,e2⟩:=hs;rw [e1];exact next _ _ hg e2
     case skip=>obtain ⟨e1,e2⟩:=hs;rw [e1];exact next _ _ hg e2.symm
     case enter f args =>
      obtain ⟨e1,hc⟩:=hs;rw [e1];exact hc.mono fun e w'' ⟨he,hw''⟩=>by subst he;exact next _ _ hw'' rfl
    |halt x w'=>simp only [Oper.quietUpon] at hs
   ·rename_i hw;rw [if_neg hw] at hs;exact next _ _ hg hs.symm
theorem qt_vals {m:Nat} (hok:jy ops m) (a0:Act) (Qe:Act->Prop):∀ (n k:Nat) (l:List Oper) (c:Nat->Value),l.length=n->k+n<=m->(∀ j,j<n->l[j]?=ops[k+j]?) ->
  wpQuiet P ops C Qe l (zZ ops c (zk k) a0) ->
  ∃ c':Nat->Value,(∀ i,i<k->c' i=c i) ∧
   (∀ i o,k<=i->i<k+n->ops[i]?=some o->if Region.wanted o (yielded ops (zZ ops c' (qm ops i) a0).tmps) then ∀ w,C w->o.quietAt P (zZ ops c' (qm ops i) a0) C w (c' i) else c' i=undef) ∧
   Qe (zZ ops c' (zk (k+n)) a0)
 |0,k,[],c,_,_,_,h=>⟨c,fun _ _=>rfl,fun i o h1 h2 _=>by omega,h⟩
 |n+1,k,o::l,c,hlen,hm,hl,h=>by
  have ho:ops[k]?=some o:=(by simpa using (hl 0 (by omega)).symm);have hdl:∀ i∈qm ops k,i∈zk k:=fun i hi=>by
   obtain ⟨e,he,hb,hon⟩:=hok.deps k o ho i hi;rw [zJ,← hon];exact hok.back k o ho e he hb
  obtain ⟨hex1,hw1⟩:=jT hok ho c (zk k) a0 hdl (vE hok k);obtain ⟨v,hv,hstep⟩:∃ v,wpQuiet P ops C Qe l ((zZ ops c (zk k) a0).put o.dst v) ∧
    (if Region.wanted o (yielded ops (zZ ops c (qm ops k) a0).tmps) then ∀ w,C w->o.quietAt P (zZ ops c (qm ops k) a0) C w v else v=undef):=by
   unfold wpQuiet at h;by_cases hw:Region.wanted o (yielded ops (zZ ops c (zk k) a0).tmps)=true
   ·rw [if_pos hw] at h;obtain ⟨v,h1,h2⟩:=h;refine ⟨v,h2,?_⟩;rw [← hw1,if_pos hw];intro w hC;have:=h1 w hC;unfold Oper.quietAt at this ⊢;rw [← hex1];exact this
   ·rw [if_neg hw] at h;refine ⟨undef,h,?_⟩;rw [← hw1,if_neg hw]
  have hne:∀ i,i<k->(fun i=>if i=k then v else c i) i=c i:=fun i hi=>by
   have:i≠k:=by omega
   simp [this]
  have hp:(zZ ops c (zk k) a0).put o.dst v=zZ ops (fun i=>if i=k then v else c i) (zk (k+1)) a0:=by
   rw [vh,k7,xW (zk k) a0 fun i hi=>hne i (zJ.1 hi)];simp [y8,ho]
  rw [hp] at hv;obtain ⟨c',h1,h2,h3⟩:=qt_vals hok a0 Qe n (k+1) l (fun i=>if i=k then v else c i) (by simpa using hlen) (by omega) (fun j hj=>by have:=hl (j+1) (by omega);simpa [wA,kf 1 j] using this) hv;refine ⟨c',fun i hi=>by rw [h1 i (by omega)];exact hne i hi,fun i o' hi1 hi2 ho'=>?_,by rw [show k+(n+1)=k+1+n by omega];exact h3⟩;rcases yI k i with hk|hk
  ·exact h2 i o' (by omega) (by omega) ho'
  ·obtain rfl:i=k:=by omega
   obtain rfl:o'=o:=yk.inj (ho'.symm.trans ho);have hc:zZ ops c' (qm ops i) a0=zZ ops c (qm ops i) a0:=xW _ _ fun j hj=>by
    have:=zJ.1 (hdl j hj);rw [h1 j (by omega)];exact hne j this
   have hci:c' i=v:=(by rw [h1 i (by omega)];simp);rw [hc,hci];exact hstep
 |0,_,_::_,_,h,_,_,_=>by cases h
 |_+1,_,[],_,h,_,_,_=>by cases h
theorem KY {id:Nat} {Q:Exit->Act->World->Prop} {a:Act} {w:World} {l:List Oper} (m:Nat) (hm:P.follows .mixedOrders=true)
  (hB:(Wg l.toArray m&&Region.seqB .any l.toArray (l.length-m) m (wJ l.length m))=true) (C:World->Prop) (hC:C w.drew)
  (h:wpQuiet P l.toArray C (fun a'=>∀ w',C w'->wpList P l.toArray Q (l.drop m) a' w') (l.take m) a):(Code.region id l.toArray true).wp P Q a w:=by
 simp only [zu] at hB;have hok:jy l.toArray m []:=jV hB.1;have hle:m<=l.length:=(by simpa using hok.le);have h0:zZ l.toArray (fun _=>undef) (zk 0) a=a:=rfl;obtain ⟨c,_,hstep,hend⟩:=qt_vals (P:=P) (C:=C) hok a _ m 0 (l.take m) (fun _=>undef) (by simp [hle]) (by omega) (fun j hj=>by simp [hj]) (by rw [h0];exact h);refine wp_region_any hm ?_;have:=wpAny_qt (P:=P) (Q:=Q) hok c a (fun k o hk ho=>hstep k o (by omega) (by omega) ho) (fun w' hC'=>by
  have hn:=hend w' hC';rw [qQ] at hn;have:=wpAny_of_seq (P:=P) (md:=.any) (Q':=Q) (l.drop m) m (wJ l.length m) (zZ l.toArray c (zk m) a) w' (fun j=>by simp [yh]) (by simpa using hB.2) hn;simpa using this) m [] (J7 l.length false) { w with drawn:=w.drawn+1 } (by simp) (by simp) (by simp) (by simp) (fun j hj=>by
   have hj':j<l.length:=(by simpa using hj);simp [hj']) hC (by simp)
 simpa [zZ] using this
end
def IsBoxN (n:Nat) (xs:Array Value) (t:TypeId) (v:Value) (w:World):Prop:=∃ b,v=.pointer (some ⟨b,0,none⟩)∧n<=b∧w.heap[b]?=some (.cells xs t)
theorem IsBoxN.stable (n:Nat) (xs:Array Value) (t:TypeId):∀ v w w',Grew w w'->IsBoxN n xs t v w->IsBoxN n xs t v w':=fun _ _ _ hg ⟨b,hv,hn,hb⟩=>⟨b,hv,hn,xq hg hb⟩
structure Gr (w:World) where
 val:World
 grew:Below w.heap.size w val
instance (w:World):Inhabited (Gr w):=⟨⟨w,Below.refl _ _⟩⟩
def qt (w:World):World->Prop:=fun w'=>∃ x:Gr w,w'=x.1
theorem WI {P:Program} {f:FuncId} {args:Array Value} {w:World} {v:Value} {x:Gr w} (h:Calls P f args x.1 fun e w'=>e=.returned v∧Below x.1.heap.size x.1 w') :
  Calls P f args x.1 fun e w''=>e=.returned v∧qt w w'' :=
 h.mono fun _ w'' ⟨he,hb⟩=>⟨he,⟨⟨w'',Grew.trans x.2 hb⟩,rfl⟩⟩
theorem Jc {P:Program} {f:FuncId} {args:Array Value} {w:World} {v:Value} {x:Gr w} (h:Calls P f args x.1 fun e w'=>e=.returned v∧w'=x.1) :
  Calls P f args x.1 fun e w''=>e=.returned v∧qt w w'' :=
 h.mono fun _ _ ⟨he,hb⟩=>⟨he,⟨x,hb⟩⟩
end
section
open Go.RowKit
section
variable {P:Program} {ops:Array Oper} {w0:World}
def YR (P:Program) (ops:Array Oper) (w0:World) (o:Oper) (a:Act) (R:Value->World->Prop):Prop :=
 Region.wanted o (yielded ops a.tmps)=true∧∀ w',Grew w0 w'->Zb P o a w' (fun v w''=>R v w''∧Ke v w' w'')
def YP (P:Program) (ops:Array Oper) (w0:World) (Q:Act->Prop):List (Nat×(Value->World->Prop))->List Oper->Act->Prop
 |[],l,a=>wpQuiet P ops (qt w0) Q l a
 |(n,R)::Fs,l,a=>wpQuiet P ops (qt w0) (fun a1=>match l.drop n with
   |[]=>False
   |o::rest=>YR P ops w0 o a1 R∧YP P ops w0 Q Fs rest (a1.put o.dst undef)) (l.take n) a
def QE (P:Program) (ops:Array Oper) (w0:World) (Q:Act->Prop):List (Option (Value->World->Prop))->List Oper->Act->Prop
 |[],[],a=>Q a
 |none::K,o::rest,a=>if Region.wanted o (yielded ops a.tmps) then ∃ v,(∀ w',qt w0 w'->o.quietAt P a (qt w0) w' v)∧QE P ops w0 Q K rest (a.put o.dst v) else QE P ops w0 Q K rest (a.put o.dst undef)
 |some R::K,o::rest,a=>YR P ops w0 o a R∧QE P ops w0 Q K rest (a.put o.dst undef)
 |_,_,_=>False
theorem k9 {Q Q':Act->Prop} {K:List (Option (Value->World->Prop))} {rest:List Oper} (h:∀ a,Q a->QE P ops w0 Q' K rest a):∀ (l:List Oper) (a:Act),wpQuiet P ops (qt w0) Q l a->QE P ops w0 Q' (zd l.length none++K) (l++rest) a
 |[],a,hq=>by simpa using h a hq
 |o::l,a,hq=>by
  unfold wpQuiet at hq;simp only [zw,zS,zo,QE];split at hq
  ·rename_i hw;rw [if_pos hw];obtain ⟨v,h1,h2⟩:=hq;exact ⟨v,h1,k9 h l _ h2⟩
  ·rename_i hw;rw [if_neg hw];exact k9 h l _ hq
def xr:List (Nat×(Value->World->Prop))->Nat->List (Option (Value->World->Prop))
 |[],n=>zd n none
 |(k,R)::Fs,n=>zd k none++some R::xr Fs (n-k-1)
theorem Yf {Q:Act->Prop}:∀ (Fs:List (Nat×(Value->World->Prop))) (l:List Oper) (a:Act),YP P ops w0 Q Fs l a->QE P ops w0 Q (xr Fs l.length) l a
 |[],l,a,h=>by
  have:=k9 (P:=P) (ops:=ops) (w0:=w0) (Q:=Q) (Q':=Q) (K:=[]) (rest:=[]) (fun a h=>h) l a h;simpa [xr] using this
 |(n,R)::Fs,l,a,h=>by
  unfold YP at h;cases hd:l.drop n with
  |nil =>
   simp only [hd] at h;exfalso;have key:∀ (l:List Oper) (a:Act),¬ wpQuiet P ops (qt w0) (fun _=>False) l a:=fun l=>by
    induction l with
    |nil=>intro a h;exact h
    |cons o l ih =>
     intro a h;unfold wpQuiet at h;split at h
     ·obtain ⟨v,_,h2⟩:=h;exact ih _ h2
     ·exact ih _ h
   exact key _ _ h
  |cons o rest =>
   simp only [hd] at h;have hn:n<l.length:=by
    rcases yI n l.length with h'|h'
    ·exact h'
    ·rw [List.drop_eq_nil_of_le h'] at hd;cases hd
   have hl:l=l.take n++(o::rest):=(by rw [← hd];exact (List.take_append_drop n l).symm);have hlen:(l.take n).length=n:=(by simp;omega);have hr:rest.length=l.length-n-1:=by
    have:=congrArg ym hd;simp at this;omega
   have:=k9 (P:=P) (ops:=ops) (w0:=w0) (Q':=Q) (K:=some R::xr Fs rest.length) (rest:=o::rest) (fun a h=>by
    simp only [QE];exact ⟨h.1,Yf Fs rest _ h.2⟩) (l.take n) a h
   rw [← hl,hlen,hr] at this;exact this
theorem KH {m:Nat} {T:List Nat} (hok:jy ops m T) (a0:Act) (Qe:Act->Prop):∀ (K:List (Option (Value->World->Prop))) (k:Nat) (l:List Oper) (c:Nat->Value),k+l.length<=m->(∀ j,j<l.length->l[j]?=ops[k+j]?) ->
  QE P ops w0 Qe K l (zZ ops c (zk k) a0) ->
  K.length=l.length∧∃ c':Nat->Value,(∀ i,i<k->c' i=c i) ∧
   (∀ i o,k<=i->i<k+l.length->ops[i]?=some o->match K[i-k]? with
    |some (some R)=>YR P ops w0 o (zZ ops c' (qm ops i) a0) R
    |_=>if Region.wanted o (yielded ops (zZ ops c' (qm ops i) a0).tmps) then ∀ w,qt w0 w->o.quietAt P (zZ ops c' (qm ops i) a0) (qt w0) w (c' i) else c' i=undef) ∧
   Qe (zZ ops c' (zk (k+l.length)) a0)
 |[],k,[],c,_,_,h=>⟨rfl,c,fun _ _=>rfl,fun i o h1 h2 _=>by simp at h2;omega,h⟩
 |none::K,k,o::l,c,hm,hl,h=>by
  have ho:ops[k]?=some o:=(by simpa using (hl 0 (by simp)).symm);have hdl:∀ i∈qm ops k,i∈zk k:=fun i hi=>by
   obtain ⟨e,he,hb,hon⟩:=hok.deps k o ho i hi;rw [zJ,← hon];exact hok.back k o ho e he hb
  obtain ⟨hex1,hw1⟩:=jT hok ho c (zk k) a0 hdl (vE hok k);obtain ⟨v,hv,hstep⟩:∃ v,QE P ops w0 Qe K l ((zZ ops c (zk k) a0).put o.dst v) ∧
    (if Region.wanted o (yielded ops (zZ ops c (qm ops k) a0).tmps) then ∀ w,qt w0 w->o.quietAt P (zZ ops c (qm ops k) a0) (qt w0) w v else v=undef):=by
   unfold QE at h;by_cases hw:Region.wanted o (yielded ops (zZ ops c (zk k) a0).tmps)=true
   ·rw [if_pos hw] at h;obtain ⟨v,h1,h2⟩:=h;refine ⟨v,h2,?_⟩;rw [← hw1,if_pos hw];intro w hC;have:=h1 w hC;unfold Oper.quietAt at this ⊢;rw [← hex1];exact this
   ·rw [if_neg hw] at h;refine ⟨undef,h,?_⟩;rw [← hw1,if_neg hw]
  have hne:∀ i,i<k->(fun i=>if i=k then v else c i) i=c i:=fun i hi=>by
   have:i≠k:=by omega
   simp [this]
  have hp:(zZ ops c (zk k) a0).put o.dst v=zZ ops (fun i=>if i=k then v else c i) (zk (k+1)) a0:=by
   rw [vh,k7,xW (zk k) a0 fun i hi=>hne i (zJ.1 hi)];simp [y8,ho]
  rw [hp] at hv;obtain ⟨hK,c',h1,h2,h3⟩:=KH hok a0 Qe K (k+1) l (fun i=>if i=k then v else c i) (by simp at hm;omega) (fun j hj=>by have:=hl (j+1) (by simp;omega);simpa [wA,kf 1 j] using this) hv;refine ⟨by simp [hK],c',fun i hi=>by rw [h1 i (by omega)];exact hne i hi,fun i o' hi1 hi2 ho'=>?_,by rw [zw,show k+(l.length+1)=k+1+l.length by omega];exact h3⟩;rcases yI k i with hk|hk
  ·have:=h2 i o' (by omega) (by simp at hi2;omega) ho';rw [show i-k=(i-(k+1))+1 by omega,yN];exact this
  ·obtain rfl:i=k:=by omega
   obtain rfl:o'=o:=yk.inj (ho'.symm.trans ho);have hc:zZ ops c' (qm ops i) a0=zZ ops c (qm ops i) a0:=xW _ _ fun j hj=>by
    have:=zJ.1 (hdl j hj);rw [h1 j (by omega)];exact hne j this
   have hci:c' i=v:=(by rw [h1 i (by omega)];simp);simp only [QL,Q9];rw [hc,hci];exact hstep
 |some R::K,k,o::l,c,hm,hl,h=>by
  have ho:ops[k]?=some o:=(by simpa using (hl 0 (by simp)).symm);have hdl:∀ i∈qm ops k,i∈zk k:=fun i hi=>by
   obtain ⟨e,he,hb,hon⟩:=hok.deps k o ho i hi;rw [zJ,← hon];exact hok.back k o ho e he hb
  obtain ⟨hex1,hw1⟩:=jT hok ho c (zk k) a0 hdl (vE hok k);unfold QE at h;obtain ⟨hF,h⟩:=h;have hF':YR P ops w0 o (zZ ops c (qm ops k) a0) R:=by
   unfold YR at hF ⊢;rw [← hw1];refine ⟨hF.1,fun w' hg=>?_⟩;have:=hF.2 w' hg;unfold Zb at this ⊢;rw [← hex1];exact this
  have hne:∀ i,i<k->(fun i=>if i=k then undef else c i) i=c i:=fun i hi=>by
   have:i≠k:=by omega
   simp [this]
  have hp:(zZ ops c (zk k) a0).put o.dst undef=zZ ops (fun i=>if i=k then undef else c i) (zk (k+1)) a0:=by
   rw [vh,k7,xW (zk k) a0 fun i hi=>hne i (zJ.1 hi)];simp [y8,ho]
  rw [hp] at h;obtain ⟨hK,c',h1,h2,h3⟩:=KH hok a0 Qe K (k+1) l (fun i=>if i=k then undef else c i) (by simp at hm;omega) (fun j hj=>by have:=hl (j+1) (by simp;omega);simpa [wA,kf 1 j] using this) h;refine ⟨by simp [hK],c',fun i hi=>by rw [h1 i (by omega)];exact hne i hi,fun i o' hi1 hi2 ho'=>?_,by rw [zw,show k+(l.length+1)=k+1+l.length by omega];exact h3⟩;rcases yI k i with hk|hk
  ·have:=h2 i o' (by omega) (by simp at hi2;omega) ho';rw [show i-k=(i-(k+1))+1 by omega,yN];exact this
  ·obtain rfl:i=k:=by omega
   obtain rfl:o'=o:=yk.inj (ho'.symm.trans ho);have hc:zZ ops c' (qm ops i) a0=zZ ops c (qm ops i) a0:=xW _ _ fun j hj=>by
    have:=zJ.1 (hdl j hj);rw [h1 j (by omega)];exact hne j this
   simp only [QL,Q9];rw [hc];exact hF'
 |[],_,_::_,_,_,_,h=>by simp [QE] at h
 |none::_,_,[],_,_,_,h=>by simp [QE] at h
 |some _::_,_,[],_,_,_,h=>by simp [QE] at h
def yL:Nat->List (Nat×(Value->World->Prop))->List Nat
 |_,[]=>[]
 |k,(n,_)::Fs=>(k+n)::yL (k+n+1) Fs
def nsF (Fs:List (Nat×(Value->World->Prop))):List Nat:=Fs.map (·.1)
def yy:Nat->List Nat->List Nat
 |_,[]=>[]
 |k,n::ns=>(k+n)::yy (k+n+1) ns
theorem vT:∀ (Fs:List (Nat×(Value->World->Prop))) (k:Nat),yL k Fs=yy k (nsF Fs)
 |[],_=>rfl
 |(n,R)::Fs,k=>by simp [yL,yy,nsF];exact vT Fs _
def XC:List (Nat×(Value->World->Prop))->Prop
 |[]=>True
 |p::Fs=>(∀ v w w',Grew w w'->p.2 v w->p.2 v w')∧XC Fs
def XT (vals:Nat->Value) (w:World):Nat->List (Nat×(Value->World->Prop))->Prop
 |_,[]=>True
 |k,(n,R)::Fs=>R (vals (k+n)) w∧XT vals w (k+n+1) Fs
theorem Qw:∀ (Fs:List (Nat×(Value->World->Prop))) (n i:Nat) (R:Value->World->Prop),(xr Fs n)[i]?=some (some R)->∀ k,k+i∈yL k Fs
 |[],n,i,R,h,k=>by
  simp [xr,x4] at h
 |(j,R')::Fs,n,i,R,h,k=>by
  simp only [xr] at h;rcases Nat.lt_trichotomy i j with hi|hi|hi
  ·rw [qv (by simpa using hi)] at h;simp [x4] at h
  ·subst hi;simp [yL]
  ·rw [yd (by simp;omega)] at h;simp only [qr] at h;rw [show i-j=(i-j-1)+1 by omega,yN] at h;have:=Qw Fs _ _ R h (k+j+1);simp only [yL,zL];right
   rw [show k+i=k+j+1+(i-j-1) by omega];exact this
theorem Xi:∀ (Fs:List (Nat×(Value->World->Prop))) (n i k:Nat),k+i∈yL k Fs->∃ R,(xr Fs n)[i]?=some (some R)
 |[],_,_,_,h=>by simp [yL] at h
 |(j,R')::Fs,n,i,k,h=>by
  simp only [yL,zL] at h;rcases h with h|h
  ·obtain rfl:i=j:=by omega
   exact ⟨R',by simp [xr]⟩
  ·have hge:∀ (Fs:List (Nat×(Value->World->Prop))) (k x:Nat),x∈yL k Fs->k<=x:=by
    intro Fs;induction Fs with
    |nil=>intro k x h;simp [yL] at h
    |cons p Fs ih=>intro k x h;obtain ⟨n,R⟩:=p;simp only [yL,zL] at h;rcases h with rfl|h;omega;have:=ih _ _ h;omega
   have hk:=hge _ _ _ h;rw [show k+i=k+j+1+(i-j-1) by omega] at h;obtain ⟨R,hR⟩:=Xi Fs (n-j-1) (i-j-1) (k+j+1) h;refine ⟨R,?_⟩;simp only [xr];rw [yd (by simp;omega)];simp only [qr];rw [show i-j=(i-j-1)+1 by omega,yN];exact hR
theorem Xs:∀ {Fs:List (Nat×(Value->World->Prop))},XC Fs->∀ (n i:Nat) (R:Value->World->Prop),(xr Fs n)[i]?=some (some R)->∀ v w w',Grew w w'->R v w->R v w'
 |[],_,n,i,R,h=>by simp [xr,x4] at h
 |(j,R')::Fs,hs,n,i,R,h=>by
  simp only [xr] at h;rcases Nat.lt_trichotomy i j with hi|hi|hi
  ·rw [qv (by simpa using hi)] at h;simp [x4] at h
  ·subst hi;rw [yd (by simp)] at h;simp at h;subst h;exact hs.1
  ·rw [yd (by simp;omega)] at h;simp only [qr] at h;rw [show i-j=(i-j-1)+1 by omega,yN] at h;exact Xs hs.2 _ _ R h
theorem Vc {vals:Nat->Value} {w:World}:∀ (Fs:List (Nat×(Value->World->Prop))) (n k:Nat),(∀ (i:Nat) (R:Value->World->Prop),(xr Fs n)[i]?=some (some R)->R (vals (k+i)) w)->XT vals w k Fs
 |[],_,_,_=>trivial
 |(j,R)::Fs,n,k,h=>by
  refine ⟨h j R (by simp [xr]),Vc Fs (n-j-1) (k+j+1) fun i R' hi=>?_⟩;have:=h (j+1+i) R' (by
   simp only [xr];rw [yd (by simp;omega)];simp only [qr];rw [show j+1+i-j=i+1 by omega,yN];exact hi)
  rwa [show k+(j+1+i)=k+j+1+i by omega] at this
def qaB (l:List Oper) (m:Nat) (ns:List Nat) (S:List (Nat×Tmp)) (T:List Nat:=[]):Bool :=
 Wg l.toArray m T&&Region.seqB .any l.toArray (l.length-m) m (wJ l.length m)&&Zj l.toArray S&&decide (S.map (·.1)=yy 0 ns) &&
 ((zk m).all fun k=>(qm l.toArray k).all fun i=>!(yy 0 ns).contains i)&&((yy 0 ns).all fun i=>decide (i<m))
theorem placesF_lt {Fs:List (Nat×(Value->World->Prop))} {m:Nat} (h:(yy 0 (nsF Fs)).all (fun i=>decide (i<m))=true):∀ i∈yL 0 Fs,i<m:=fun i hi=>by
 rw [vT] at hi;simpa using zF.1 h i hi
theorem Xp {vals vals':Nat->Value}:∀ (is:List Nat) (a:Act),(∀ i∈is,∀ t,y8 ops i=some t->t<a.tmps.size->vals i=vals' i)->zZ ops vals is a=zZ ops vals' is a
 |[],_,_=>rfl
 |i::is,a,h=>by
  have e:a.put (y8 ops i) (vals i)=a.put (y8 ops i) (vals' i):=by
   cases hd:y8 ops i with
   |none=>rfl
   |some t =>
    by_cases ht:t<a.tmps.size
    ·rw [h i (by simp) t hd ht]
    ·simp only [Act.put];congr 1
     rw [Yh (kQ ht),Yh (kQ ht)]
  show zZ ops vals is (a.put (y8 ops i) (vals i))=zZ ops vals' is (a.put (y8 ops i) (vals' i))
  rw [e];exact Xp is _ fun j hj t ht hs=>h j (by simp [hj]) t ht (by rwa [WH] at hs)
def rM (x:Option (Option (Value->World->Prop))) (d:Prop) (v:Value) (w:World):Prop:=match x with|some (some R)=>R v w|_=>d
theorem KI {x:Option (Option (Value->World->Prop))} {R:Value->World->Prop} (h:x=some (some R)) (d:Prop) (v:Value) (w:World):rM x d v w=R v w:=by subst h;rfl
theorem XO {x:Option (Option (Value->World->Prop))} (h:∀ R,x≠some (some R)) (d:Prop) (v:Value) (w:World):rM x d v w=d:=by
 rcases x with _|_|R
 ·rfl
 ·rfl
 ·exact absurd rfl (h R)
theorem XN (x:Option (Option (Value->World->Prop))):(∃ R,x=some (some R))∨∀ R,x≠some (some R):=by
 rcases x with _|_|R
 ·exact .inr fun R h=>by cases h
 ·exact .inr fun R h=>by cases h
 ·exact .inl ⟨R,rfl⟩
theorem KX {id:Nat} {Q:Exit->Act->World->Prop} {a:Act} {w:World} {l:List Oper} (m:Nat) (Fs:List (Nat×(Value->World->Prop))) (S:List (Nat×Tmp)) (hm:P.follows .mixedOrders=true)
    (hB:qaB l m (nsF Fs) S=true) (stable:XC Fs) (A:Act) (hA:∀ w1,Grew w w1->YP P l.toArray w1 (fun a'=>a'=A) Fs (l.take m) a)
    (fin:∀ vals w',Grew w w'->XT vals w' 0 Fs->(∀ i∈S.map (·.1),∀ j∈S.map (·.1),i≠j->wB (vals i)≠wB (vals j))->wpList P l.toArray Q (l.drop m) (yu S vals A) w'):(Code.region id l.toArray true).wp P Q a w:=by
  simp only [qaB,zu,decide_eq_true_eq] at hB;obtain ⟨⟨⟨⟨⟨h1,h2⟩,h3⟩,h4⟩,h5⟩,h6⟩:=hB;have hok:jy l.toArray m []:=jV h1;have hle:m<=l.length:=(by simpa using hok.le);have hlt:=placesF_lt h6;have hlen:(l.take m).length=m:=(by simp;omega);have h0:zZ l.toArray (fun _=>undef) (zk 0) a=a:=rfl
  have hex : ∀ w1, Grew w w1 -> (xr Fs m).length = m ∧ ∃ c : Nat -> Value, (∀ i o, i < m -> l[i]? = some o -> match (xr Fs m)[i]? with
        | some (some R)=>YR P l.toArray w1 o (zZ l.toArray c (qm l.toArray i) a) R
        | _=>if Region.wanted o (yielded l.toArray (zZ l.toArray c (qm l.toArray i) a).tmps) then ∀ w,qt w1 w->o.quietAt P (zZ l.toArray c (qm l.toArray i) a) (qt w1) w (c i) else c i=undef) ∧
      zZ l.toArray c (zk m) a=A:=fun w1 hg=>by
    have hqa:=Yf Fs (l.take m) a (hA w1 hg);rw [hlen] at hqa;obtain ⟨hK,c,_,hstep,hend⟩:=KH hok a _ (xr Fs m) 0 (l.take m) (fun _=>undef) (by simp [hle]) (fun j hj=>by rw [hlen] at hj;simp [hj]) (by rw [h0];exact hqa);rw [hlen] at hstep hend hK;rw [qQ] at hend;exact ⟨hK,c,fun i o hi ho=>by have:=hstep i o (qy _) (by omega) (by simpa using ho);rwa [Nat.sub_zero] at this,hend⟩
  have hsame:∀ c:Nat->Value,zZ l.toArray c (zk m) a=A->∀ i t,i<m->y8 l.toArray i=some t->t<a.tmps.size->c i=A.tmps.getD t undef:=fun c hc i t hi hd ht=>by
    have:=vz c t i hd (zk m) a (zJ.2 hi) (fun j _ hj=>hok.uniq j i t hj hd);rw [hc,if_pos ht] at this;simp [this]
  have hnd:∀ k,k<m->∀ i∈qm l.toArray k,i ∉ yL 0 Fs:=fun k hk i hi=>by
    have:=zF.1 (zF.1 h5 k (zJ.2 hk)) i hi;rw [vT];simpa using this
  have hdm:∀ k o,k<m->l[k]?=some o->∀ i∈qm l.toArray k,i<m:=fun k o hk ho i hi=>by
    obtain ⟨e,he,hb,hon⟩:=hok.deps k o (by simpa using ho) i hi;have:=hok.back k o (by simpa using ho) e he hb;omega
  obtain ⟨hK,_⟩:=hex w (Below.refl _ _);refine J3 m (fun i v w=>rM (xr Fs m)[i]? (∀ t,y8 l.toArray i=some t->t<a.tmps.size->v=A.tmps.getD t undef) v w) (fun i=>(yL 0 Fs).contains i) hm (by rw [h1,h2];rfl) (fun i v w w' hg h=>?_) (fun k o hk ho vals w' hg hR=>?_) (fun vals w' hg hR hF=>?_)
  · rcases XN (xr Fs m)[i]? with ⟨R,hR⟩|hno
    · rw [KI hR] at h ⊢;exact Xs stable m i R hR v w w' hg h
    · rw [XO hno] at h ⊢;exact h
  · obtain ⟨_,c,hstep,hend⟩:=hex w' hg;have hdeps:zZ l.toArray vals (qm l.toArray k) a=zZ l.toArray c (qm l.toArray k) a:=Xp _ _ fun i hi t ht hs=>by
      have hi':=hR i hi;have hno:=hnd k hk i hi;rcases XN (xr Fs m)[i]? with ⟨R,hRR⟩|hno'
      · have:=Qw Fs m i R hRR 0;rw [qQ] at this;exact absurd this hno
      · rw [XO hno'] at hi';rw [hi' t ht hs,hsame c hend i t (hdm k o hk ho i hi) ht hs]
    rw [hdeps];have hs:=hstep k o hk ho;rcases XN (xr Fs m)[k]? with ⟨R,hRR⟩|hno
    · simp only [hRR] at hs;simp only [KI hRR];rw [if_pos hs.1];have hg':=hs.2 w' (Below.refl _ _);unfold Zb at hg' ⊢;generalize (execOp (zZ l.toArray c (qm l.toArray k) a).eval o).run P w'=r at hg' ⊢;cases r with
      | ok n w'' =>
        cases n <;> simp only [vQ] at hg' ⊢
        case value v=>exact ⟨hg'.1,hg'.2.1,fun _=>hg'.2.2⟩
        case skip=>exact ⟨hg'.1,hg'.2.1,fun _=>hg'.2.2⟩
        case enter f args=>exact ⟨hg'.1,hg'.2.mono fun e w3 ⟨v,he,hb,hr,hf⟩=>⟨v,he,hb,hr,fun _=>hf⟩⟩
      | halt x w''=>simp only [vQ] at hg'
    · have hnF:(yL 0 Fs).contains k=false:=by
        cases hc:(yL 0 Fs).contains k with
        | false=>rfl
        | true =>
          have hmem:k∈yL 0 Fs:=(by simpa using hc);obtain ⟨R,hRR⟩:=Xi Fs m k 0 (by rw [qQ];exact hmem);exact absurd hRR (hno R)
      have hck:∀ t,y8 l.toArray k=some t->t<a.tmps.size->c k=A.tmps.getD t undef:=fun t ht hs=>hsame c hend k t hk ht hs
      have hs:if Region.wanted o (yielded l.toArray (zZ l.toArray c (qm l.toArray k) a).tmps) then ∀ w,qt w' w->o.quietAt P (zZ l.toArray c (qm l.toArray k) a) (qt w') w (c k) else c k=undef:=by
        split at hs
        · rename_i R hRR;exact absurd hRR (hno R)
        · exact hs
      simp only [XO hno,hnF];split at hs
      · rename_i hw;rw [if_pos hw];have hq:=hs w' ⟨⟨w',Below.refl _ _⟩,rfl⟩;unfold Oper.quietAt at hq;unfold Zb;generalize (execOp (zZ l.toArray c (qm l.toArray k) a).eval o).run P w'=r at hq ⊢;cases r with
        | ok n w'' =>
          cases n <;> simp only [Oper.quietUpon] at hq <;> simp only [vQ]
          case value v=>obtain ⟨e1,e2⟩:=hq;rw [e1,e2];exact ⟨Below.refl _ _,hck,fun h=>by cases h⟩
          case skip=>obtain ⟨e1,e2⟩:=hq;rw [e1];exact ⟨Below.refl _ _,fun t ht hsz=>e2.symm.trans (hck t ht hsz),fun h=>by cases h⟩
          case enter f args =>
            obtain ⟨e1,hc⟩:=hq;rw [e1];exact ⟨Below.refl _ _,hc.mono fun e w3 ⟨he,x,hx⟩=>⟨_,he,by rw [hx];exact x.2,hck,fun h=>by cases h⟩⟩
        | halt x w''=>simp only [Oper.quietUpon] at hq
      · rename_i hw;rw [if_neg hw];exact ⟨fun t ht hsz=>hs.symm.trans (hck t ht hsz),trivial⟩
  · obtain ⟨_,c,hstep,hend⟩:=hex w' hg;have hEF:XT vals w' 0 Fs:=Vc Fs m 0 fun i R hRR=>by
      have hi:=hR i (by
        have:=(xB.1 hRR).1;rw [hK] at this;exact this)
      rw [KI hRR] at hi;rw [qQ];exact hi
    have hdist:∀ i∈S.map (·.1),∀ j∈S.map (·.1),i≠j->wB (vals i)≠wB (vals j):=fun i hi j hj hne=>by
      rw [h4,← vT] at hi hj;exact hF i j (hlt i hi) (hlt j hj) hne (by simpa using hi) (by simpa using hj)
    have hfin:=fin vals w' hg hEF hdist;rw [kM vals S _ h3,h4,← vT,← hend] at hfin;have hs:zZ l.toArray vals (yL 0 Fs) (zZ l.toArray c (zk m) a)=zZ l.toArray vals (zk m) a:=by
      have ht:(zZ l.toArray vals (yL 0 Fs) (zZ l.toArray c (zk m) a)).tmps=(zZ l.toArray vals (zk m) a).tmps:=by
        apply yr;intro t;by_cases hex:∃ i,i<m∧y8 l.toArray i=some t
        · obtain ⟨i,hi,hdi⟩:=hex;have hu:∀ is:List Nat,∀ j∈is,y8 l.toArray j=some t->j=i:=fun _ j _ hj=>hok.uniq j i t hj hdi
          by_cases hiF:i∈yL 0 Fs
          · rw [vz vals t i hdi _ _ hiF (hu _),vz vals t i hdi _ _ (zJ.2 hi) (hu _),JP]
          · rw [wK vals t _ _ (fun j hj hdj=>hiF (by rw [← hok.uniq j i t hdj hdi];exact hj)),vz c t i hdi _ _ (zJ.2 hi) (hu _),vz vals t i hdi _ _ (zJ.2 hi) (hu _)];have hi':=hR i hi;rcases XN (xr Fs m)[i]? with ⟨R,hRR⟩|hno'
            · have:=Qw Fs m i R hRR 0;rw [qQ] at this;exact absurd this hiF
            · rw [XO hno'] at hi';by_cases hsz:t<a.tmps.size
              · rw [if_pos hsz,if_pos hsz,hi' t hdi hsz,hsame c hend i t hi hdi hsz]
              · rw [if_neg hsz,if_neg hsz]
        · have hno:∀ is:List Nat,(∀ i∈is,i<m)->∀ i∈is,y8 l.toArray i≠some t:=fun is hlt i hi he=>hex ⟨i,hlt i hi,he⟩
          rw [wK vals t _ _ (hno _ hlt),wK c t _ _ (hno _ fun i hi=>zJ.1 hi),wK vals t _ _ (hno _ fun i hi=>zJ.1 hi)]
      have hdf:(zZ l.toArray vals (yL 0 Fs) (zZ l.toArray c (zk m) a)).defers=(zZ l.toArray vals (zk m) a).defers:=(by rw [yR,yR,yR]);generalize zZ l.toArray vals (yL 0 Fs) (zZ l.toArray c (zk m) a)=x at *;generalize zZ l.toArray vals (zk m) a=y at *;cases x;cases y;simp only at ht hdf;subst ht hdf;rfl
    rw [hs] at hfin;exact hfin
end
end
section
open Go.RowKit
theorem fold_set (l:List Value):∀ (k:Nat) (acc:Array Value),acc.size=k+l.length->(l.zipIdx k).foldl (fun cs x=>cs.setIfInBounds x.2 x.1) acc=(acc.toList.take k++l).toArray:=by
 induction l with
 |nil =>
  intro k acc h;simp only [List.zipIdx_nil,zx,qO];rw [qp (by simp at h ⊢;omega)]
 |cons v r ih =>
  intro k acc h;simp only [List.zipIdx_cons,zB];rw [ih (k+1) _ (by simp at h ⊢;omega)];congr 1
  have hk:k<acc.toList.length:=(by simp at h ⊢;omega);rw [Array.toList_setIfInBounds,List.take_set,List.take_succ_eq_append_getElem hk,List.set_append_right _ _ (by simp;omega)];simp [kF (Nat.le_of_lt (by simpa using hk))]
theorem Z0 {B:Nat} {a w:World} (h:Below B a w) {g:Nat} (hg:B<=g) (cs:Array Value):Below B a (w.setRow g cs) :=
 ⟨h.os,h.tape,h.output,by simpa [World.setRow] using h.size,fun k hk=>(setRow_other w g k cs (by omega)).trans (h.block k hk)⟩
section
variable {P:Program}
theorem Jd (w:World) (t e:TypeId) (cs:Array Value) (hu:P.underlying t=some (.slice e)) (hi:(P.info? e).map (·.size)=some cs.size) (hz:((P.info? e).bind (·.zero)).isSome=true) (hpos:0<cs.size) (hsmall:cs.size<=16777216) :
  (Instr.buildSlice t 1 #[(0,.agg cs)]).run P w=.ok (.slice (some ⟨w.heap.size,0,none⟩) 1 1) (w.alloc (.cells cs e)):=by
 cases hie:P.info? e with
 |none=>simp [hie] at hi
 |some ie =>
  simp only [hie,Qb,yk.injEq,Option.bind_some] at hi hz;obtain ⟨z,hzz⟩:=Option.isSome_iff_exists.1 hz;refine run_buildSlice w t e 1 _ cs ie z hu hie hzz (by omega) (by omega) ?_;have hc:(Value.agg cs).cells=cs:=rfl;simp only [Instr.fill,QM,QK,hc,hi];have hsz:((Array.range cs.size).map (z.cells[·%z.cells.size]!)).size=cs.size:=(by simp);generalize (Array.range cs.size).map (z.cells[·%z.cells.size]!)=A at hsz ⊢;rw [if_neg (by simp [hsz])];congr 1
  have h:=fold_set cs.toList 0 A (by simp [hsz]);simp only [jA,zv,Array.toArray_toList] at h;refine Eq.trans ?_ h;rw [← Array.foldl_toList];simp
theorem ks (w:World) (g o:Nat) (t ty:TypeId) (cur:Array Value) (v:Value) (hg:w.heap[g]?=some (.cells cur t (0,0))) (hi:(P.info? ty).map (·.size)=some v.cells.size)
  (hl:o+v.cells.size<=cur.size) (h1:∀ u∈v.cells.toList,u.oneCell'=true) :
  (storeVar ty ⟨g,o,none⟩ v).run P w=.ok () (w.setRow g (cur.toList.take o++v.cells.toList++cur.toList.drop (o+v.cells.size)).toArray):=by
 have:=run_storeCells_at (P:=P) g o t v.cells.toList 0 cur w hg (by simpa using hl) h1;cases hq:P.info? ty with
 |none=>simp [hq] at hi
 |some i =>
  have hs:v.cells.size=i.size:=(by simp [hq] at hi;omega);simp [storeVar,sizeOf,typeInfo,hq,hs] at this ⊢;rw [this]
end
def zU {α:Type} (enc:α->List Value) (L:List α):List Value:=L.flatMap enc
theorem flatG_snoc {α:Type} (enc:α->List Value) (L:List α) (x:α):zU enc (L++[x])=zU enc L++enc x:=by simp [zU]
theorem ZX {α:Type} (enc:α->List Value) (k:Nat) (hk:∀ x,(enc x).length=k):∀ (L:List α) (i:Nat) (x:α),L[i]?=some x->∀ j,j<k->(zU enc L)[i*k+j]?=(enc x)[j]?
 |[],i,x,h,_,_=>by simp at h
 |y::L,0,x,h,j,hj=>by
  simp at h;subst h;simp only [zU,zt,QM,qQ];rw [qv (by rw [hk];exact hj)]
 |y::L,i+1,x,h,j,hj=>by
  have ih:=ZX enc k hk L i x (by simpa using h) j hj;simp only [zU,zt] at ih ⊢;rw [yd (by rw [hk,xl];omega),hk];rw [show (i+1)*k+j-k=i*k+j by rw [xl];omega];exact ih
theorem yW {α:Type} (enc:α->List Value) (k:Nat) (hk:∀ x,(enc x).length=k) (L:List α):(zU enc L).length=L.length*k:=by
 induction L with
 |nil=>simp [zU]
 |cons y L ih =>
  simp only [zU,zt,zi,hk,zw] at ih ⊢;rw [ih,xl];omega
end
end Go.Proofs.YtgnppnokkdghcaaGreatDoor
section
namespace Go.Proofs.YtgnppnokkdghcaaGreatDoor
set_option linter.unusedSimpArgs false
set_option linter.unusedVariables false
open Go.RowKit
theorem puA {α:Type} (l:List α) (i:Nat) (a:α):l.toArray.setIfInBounds i a=(l.set i a).toArray:=zf l i a
theorem puB {α:Type} (a b:α) (l:List α):(a::l).set 0 b=b::l:=rfl
theorem puC {α:Type} (a b:α) (l:List α) (n:Nat):(a::l).set (n+1) b=a::l.set n b:=rfl
structure As where
 fp:List Nat
 ho:World->Prop
 loc:∀ w w':World,(∀ b∈fp,w'.heap[b]?=w.heap[b]?)->ho w->ho w'
 lt:∀ w,ho w->∀ b∈fp,b<w.heap.size
def blk (b:Nat) (o:Obj):As:=⟨[b],fun w=>w.heap[b]?=some o,fun w w' h hw=>by rw [h b (by simp)];exact hw,fun w hw c hc=>by simp at hc;subst hc;exact lt_of_block hw⟩
theorem w8 (b:Nat) (o:Obj):(blk b o).fp=[b]:=rfl
theorem xp (b:Nat) (o:Obj) (w:World):(blk b o).ho w=(w.heap[b]?=some o):=rfl
def As.sep (A B:As):As:=⟨A.fp++B.fp,fun w=>A.ho w∧B.ho w∧∀ b∈A.fp,b ∉ B.fp,
 fun w w' h hw=>⟨A.loc w w' (fun b hb=>h b (by simp [hb])) hw.1,B.loc w w' (fun b hb=>h b (by simp [hb])) hw.2.1,hw.2.2⟩,
 fun w hw b hb=>by rcases zl.1 hb with hb|hb;exact A.lt w hw.1 b hb;exact B.lt w hw.2.1 b hb⟩
theorem sep_fp (A B:As):(A.sep B).fp=A.fp++B.fp:=rfl
theorem qz (A B:As) (w:World):(A.sep B).ho w=(A.ho w∧B.ho w∧∀ b∈A.fp,b ∉ B.fp):=rfl
structure St (w0:World) (M:List Nat) (L:List As) (w:World):Prop where
 os:w.os=w0.os
 tape:w.tape=w0.tape
 output:w.output=w0.output
 size:w0.heap.size<=w.heap.size
 keep:∀ b,b<w0.heap.size->b ∉ M->w.heap[b]?=w0.heap[b]?
 ho:∀ A∈L,A.ho w
 own:∀ A∈L,∀ b∈A.fp,w0.heap.size<=b∨b∈M
 dis:L.Pairwise fun A B=>∀ b∈A.fp,b ∉ B.fp
inductive Pick:List As->As->List As->Prop
 |here {A:As} {R:List As}:Pick (A::R) A R
 |there {A B:As} {L R:List As}:Pick L A R->Pick (B::L) A (B::R)
inductive Upd:List As->As->As->List As->Prop
 |here {A A':As} {R:List As}:Upd (A::R) A A' (A'::R)
 |there {A A' B:As} {L L':List As}:Upd L A A' L'->Upd (B::L) A A' (B::L')
theorem pk {P:Prop} (h:P:=by (repeat constructor);fail_if_success exfalso):P:=h
theorem Pick.mem {L R:List As} {A:As} (h:Pick L A R):A∈L:=by
 induction h with
 |here=>simp
 |there _ ih=>simp [ih]
theorem Pick.perm {L R:List As} {A:As} (h:Pick L A R):L.Perm (A::R):=by
 induction h with
 |here=>exact wg.refl _
 |there _ ih=>exact (ih.cons _).trans (wg.swap _ _ _)
theorem Upd.pick {L L':List As} {A A':As} (h:Upd L A A' L'):∃ R,L.Perm (A::R)∧L'.Perm (A'::R):=by
 induction h with
 |here=>exact ⟨_,wg.refl _,wg.refl _⟩
 |there _ ih =>
  obtain ⟨R,h1,h2⟩:=ih;exact ⟨_::R,(h1.cons _).trans (wg.swap _ _ _),(h2.cons _).trans (wg.swap _ _ _)⟩
namespace St
variable {w0 w w':World} {M:List Nat} {L L' R:List As} {A A':As}
theorem below (h:St w [] L w'):Below w.heap.size w w':=⟨h.os,h.tape,h.output,h.size,fun k hk=>h.keep k hk (by simp)⟩
theorem of_below (h:Below w.heap.size w w'):St w [] [] w':=⟨h.os,h.tape,h.output,h.size,fun b hb _=>h.block b hb,by simp,by simp,List.Pairwise.nil⟩
theorem nil (w:World) (M:List Nat):St w M [] w:=⟨rfl,rfl,rfl,zr _,fun _ _ _=>rfl,by simp,by simp,List.Pairwise.nil⟩
theorem one {A:As} (h:A.ho w):St w A.fp [A] w:=⟨rfl,rfl,rfl,zr _,fun _ _ _=>rfl,by simpa using h,fun B hB b hb=>by simp at hB;subst hB;exact .inr hb,by simp⟩
theorem two {A B:As} (h:A.ho w) (k:B.ho w) (hd:∀ b∈A.fp,b ∉ B.fp):St w (A.fp++B.fp) [A,B] w:=⟨rfl,rfl,rfl,zr _,fun _ _ _=>rfl,by simp [h,k],fun C hC b hb=>by
 simp at hC;rcases hC with rfl|rfl <;> simp [hb],by simpa using hd⟩
theorem perm (h:St w0 M L w) (hp:L.Perm L'):St w0 M L' w :=
 ⟨h.os,h.tape,h.output,h.size,h.keep,fun A hA=>h.ho A (hp.mem_iff.2 hA),fun A hA=>h.own A (hp.mem_iff.2 hA),(hp.pairwise_iff fun hd b hb hA=>hd b hA hb).1 h.dis⟩
theorem pick (h:St w0 M L w) (hp:Pick L A R):St w0 M (A::R) w:=h.perm hp.perm
theorem pick2 {B:As} {R':List As} (h:St w0 M L w) (h1:Pick L A R) (h2:Pick R B R'):St w0 M (A::B::R') w:=h.perm (h1.perm.trans (h2.perm.cons _))
theorem pick3 {B C:As} {R' R'':List As} (h:St w0 M L w) (h1:Pick L A R) (h2:Pick R B R') (h3:Pick R' C R''):St w0 M (A::B::C::R'') w:=h.perm (h1.perm.trans ((h2.perm.trans (h3.perm.cons _)).cons _))
theorem get (h:St w0 M L w) (hp:Pick L A R):A.ho w:=h.ho A hp.mem
theorem tail (h:St w0 M (A::L) w):St w0 M L w:=⟨h.os,h.tape,h.output,h.size,h.keep,fun B hB=>h.ho B (by simp [hB]),fun B hB=>h.own B (by simp [hB]),(qu.1 h.dis).2⟩
theorem drop (h:St w0 M L w) (hp:Pick L A R):St w0 M R w:=(h.pick hp).tail
theorem nix (h:St w0 M L w):St w0 M [] w:=⟨h.os,h.tape,h.output,h.size,h.keep,by simp,by simp,List.Pairwise.nil⟩
theorem onlyHead (h:St w0 M (A::L) w):St w0 M [A] w:=⟨h.os,h.tape,h.output,h.size,h.keep,fun B hB=>h.ho B (by simp at hB;simp [hB]),fun B hB=>h.own B (by simp at hB;simp [hB]),by simp⟩
theorem only (h:St w0 M L w) (hp:Pick L A R):St w0 M [A] w:=(h.pick hp).onlyHead
theorem old (h:St w0 M L w) {A:As} (hA:A.ho w0) (hd:∀ b∈A.fp,b ∉ M):A.ho w:=A.loc w0 w (fun b hb=>h.keep b (A.lt w0 hA b hb) (hd b hb)) hA
theorem fpLt (h:St w0 M L w) (hA:A∈L):∀ b∈A.fp,b<w.heap.size:=A.lt w (h.ho A hA)
theorem call (h:St w0 M (A::R) w) (hc:St w A.fp L' w'):St w0 M (L'++R) w':=by
 have hA:=h.fpLt (A:=A) (by simp);obtain ⟨hd1,hd2⟩:=qu.1 h.dis;have hR:∀ B∈R,∀ b∈B.fp,w'.heap[b]?=w.heap[b]?:=fun B hB b hb=>hc.keep b (h.fpLt (by simp [hB]) b hb) fun hm=>hd1 B hB b hm hb
 refine ⟨hc.os.trans h.os,hc.tape.trans h.tape,hc.output.trans h.output,qs h.size hc.size,fun b hb hM=>?_,fun B hB=>?_,fun B hB b hb=>?_,?_⟩
 ·rw [hc.keep b (jN hb h.size) fun hm=>?_]
  ·exact h.keep b hb hM
  ·rcases h.own A (by simp) b hm with h'|h'
   ·omega
   ·exact hM h'
 ·rcases zl.1 hB with hB|hB
  ·exact hc.ho B hB
  ·exact B.loc w w' (hR B hB) (h.ho B (by simp [hB]))
 ·rcases zl.1 hB with hB|hB
  ·rcases hc.own B hB b hb with h'|h'
   ·exact .inl (qs h.size h')
   ·exact h.own A (by simp) b h'
  ·exact h.own B (by simp [hB]) b hb
 ·refine j6.2 ⟨hc.dis,hd2,fun B hB C hC b hb hbC=>?_⟩;rcases hc.own B hB b hb with h'|h'
  ·have:=h.fpLt (A:=C) (by simp [hC]) b hbC;omega
  ·exact hd1 C hC b h' hbC
theorem call0 (h:St w0 M R w) (hc:St w [] L' w'):St w0 M (L'++R) w':=by
 refine ⟨hc.os.trans h.os,hc.tape.trans h.tape,hc.output.trans h.output,qs h.size hc.size,fun b hb hM=>?_,fun B hB=>?_,fun B hB b hb=>?_,?_⟩
 ·rw [hc.keep b (jN hb h.size) (by simp)];exact h.keep b hb hM
 ·rcases zl.1 hB with hB|hB
  ·exact hc.ho B hB
  ·exact B.loc w w' (fun b hb=>hc.keep b (h.fpLt hB b hb) (by simp)) (h.ho B hB)
 ·rcases zl.1 hB with hB|hB
  ·rcases hc.own B hB b hb with h'|h'
   ·exact .inl (qs h.size h')
   ·simp at h'
  ·exact h.own B hB b hb
 ·refine j6.2 ⟨hc.dis,h.dis,fun B hB C hC b hb hbC=>?_⟩;rcases hc.own B hB b hb with h'|h'
  ·have:=h.fpLt (A:=C) hC b hbC;omega
  ·simp at h'
theorem grew (h:St w0 M R w) (hc:Below w.heap.size w w'):St w0 M R w':=h.call0 (of_below hc)
theorem drew (h:St w0 M R w):St w0 M R w.drew:=h.grew (Below.refl _ _).drew
theorem drewN (h:St w0 M R w) (n:Nat):St w0 M R (w.drewN n):=h.grew ⟨rfl,rfl,rfl,zr _,fun _ _=>rfl⟩
theorem newBlk (o:Obj):St w [] [blk w.heap.size o] (w.alloc o) :=
 ⟨rfl,rfl,rfl,by simp,fun b hb _=>kI w o b hb,fun A hA=>by simp at hA;subst hA;exact Vp w o,fun A hA b hb=>by simp at hA;subst hA;simp [blk] at hb;exact .inl (by omega),by simp⟩
theorem alloc (h:St w0 M R w) (o:Obj):St w0 M (blk w.heap.size o::R) (w.alloc o):=h.call0 (newBlk o)
theorem turn (h:St w0 M (A::R) w) (hk:∀ b,b ∉ A.fp->w'.heap[b]?=w.heap[b]?) (ho:w'.os=w.os) (ht:w'.tape=w.tape) (hp:w'.output=w.output) (hs:w'.heap.size=w.heap.size) (hA:A'.ho w') (hf:A'.fp=A.fp):St w0 M (A'::R) w':=by
 have hc:St w A.fp [A'] w':=⟨ho,ht,hp,by omega,fun b _ hb=>hk b hb,by simpa using hA,fun B hB b hb=>by simp at hB;subst hB;rw [hf] at hb;exact .inr hb,by simp⟩
 exact h.call hc
theorem setRow {g:Nat} {cs cs':Array Value} {t:TypeId} {fr:Nat×Nat} (h:St w0 M L w) (hp:Upd L (blk g (.cells cs t fr)) (blk g (.cells cs' t fr)) L'):St w0 M L' (w.setRow g cs'):=by
 obtain ⟨R,h1,h2⟩:=hp.pick;have h:=h.perm h1;have hg:w.heap[g]?=some (.cells cs t fr):=h.ho _ zN;refine (St.turn h (A':=blk g (.cells cs' t fr)) (fun b hb=>setRow_other w g b cs' fun e=>hb (by simp [blk,e])) rfl rfl rfl (by simp) (setRow_heap w g _ _ _ _ hg) rfl).perm h2.symm
theorem sep (h:St w0 M (A.sep A'::R) w):St w0 M (A::A'::R) w:=by
 obtain ⟨h1,h2,h3⟩:A.ho w∧A'.ho w∧∀ b∈A.fp,b ∉ A'.fp:=h.ho (A.sep A') (by simp);obtain ⟨hd1,hd2⟩:=qu.1 h.dis;have hfp:∀ b,b∈A.fp∨b∈A'.fp->b∈(A.sep A').fp:=fun b hb=>zl.2 hb
 refine ⟨h.os,h.tape,h.output,h.size,h.keep,fun B hB=>?_,fun B hB b hb=>?_,?_⟩
 ·simp at hB;rcases hB with rfl|rfl|hB
  ·exact h1
  ·exact h2
  ·exact h.ho B (by simp [hB])
 ·simp at hB;rcases hB with rfl|rfl|hB
  ·exact h.own (B.sep A') (by simp) b (hfp b (.inl hb))
  ·exact h.own (A.sep B) (by simp) b (hfp b (.inr hb))
  ·exact h.own B (by simp [hB]) b hb
 ·refine qu.2 ⟨fun B hB b hb=>?_,qu.2 ⟨fun B hB b hb=>hd1 B hB b (hfp b (.inr hb)),hd2⟩⟩;simp at hB;rcases hB with rfl|hB
  ·exact h3 b hb
  ·exact hd1 B hB b (hfp b (.inl hb))
theorem join (h:St w0 M (A::A'::R) w):St w0 M (A.sep A'::R) w:=by
 obtain ⟨hd1,hd2⟩:=qu.1 h.dis;obtain ⟨hd3,hd4⟩:=qu.1 hd2;refine ⟨h.os,h.tape,h.output,h.size,h.keep,fun B hB=>?_,fun B hB b hb=>?_,?_⟩
 ·simp at hB;rcases hB with rfl|hB
  ·exact ⟨h.ho A (by simp),h.ho A' (by simp),hd1 A' (by simp)⟩
  ·exact h.ho B (by simp [hB])
 ·simp at hB;rcases hB with rfl|hB
  ·rcases zl.1 hb with hb|hb
   ·exact h.own A (by simp) b hb
   ·exact h.own A' (by simp) b hb
  ·exact h.own B (by simp [hB]) b hb
 ·refine qu.2 ⟨fun B hB b hb=>?_,hd4⟩;rcases zl.1 hb with hb|hb
  ·exact hd1 B (by simp [hB]) b hb
  ·exact hd3 B hB b hb
theorem conv (h:St w0 M (A::R) w) (hf:A'.fp=A.fp) (hh:A.ho w->A'.ho w):St w0 M (A'::R) w:=by
 obtain ⟨hd1,hd2⟩:=qu.1 h.dis;refine ⟨h.os,h.tape,h.output,h.size,h.keep,fun B hB=>?_,fun B hB b hb=>?_,qu.2 ⟨fun B hB b hb=>hd1 B hB b (hf ▸ hb),hd2⟩⟩
 ·simp at hB;rcases hB with rfl|hB
  ·exact hh (h.ho A (by simp))
  ·exact h.ho B (by simp [hB])
 ·simp at hB;rcases hB with rfl|hB
  ·exact h.own A (by simp) b (hf ▸ hb)
  ·exact h.own B (by simp [hB]) b hb
end St
theorem St.at {w0 w:World} {M:List Nat} {L R:List As} {g:Nat} {o:Obj} (h:St w0 M L w) (hp:Pick L (blk g o) R):w.heap[g]?=some o:=by
 have:=h.get hp;rwa [xp] at this
structure Ks (w0:World) (M:List Nat) (K:List As):Prop where
 ho:∀ A∈K,A.ho w0
 apart:∀ A∈K,∀ b∈A.fp,b ∉ M
theorem Ks.one {w:World} {A:As} (h:A.ho w):Ks w [] [A]:=⟨by simpa using h,by simp⟩
theorem Ks.two {w:World} {A B:As} (h:A.ho w) (k:B.ho w):Ks w [] [A,B]:=⟨by simp [h,k],by simp⟩
theorem Ks.cons {w:World} {M:List Nat} {K:List As} {A:As} (h:A.ho w) (hd:∀ b∈A.fp,b ∉ M) (k:Ks w M K):Ks w M (A::K):=⟨by simpa using ⟨h,k.ho⟩,by simpa using ⟨hd,k.apart⟩⟩
theorem Ks.nil (w:World) (M:List Nat):Ks w M []:=⟨by simp,by simp⟩
theorem Ks.sep {w:World} {M:List Nat} {K:List As} {A B:As} (k:Ks w M (A.sep B::K)):Ks w M (A::B::K):=by
 have h:A.ho w∧B.ho w∧∀ b∈A.fp,b ∉ B.fp:=k.ho (A.sep B) (by simp);refine ⟨?_,?_⟩
 ·intro C hC;simp at hC;rcases hC with rfl|rfl|hC
  ·exact h.1
  ·exact h.2.1
  ·exact k.ho C (by simp [hC])
 ·intro C hC b hb;simp at hC;rcases hC with rfl|rfl|hC
  ·exact k.apart (C.sep B) (by simp) b (zl.2 (.inl hb))
  ·exact k.apart (A.sep C) (by simp) b (zl.2 (.inr hb))
  ·exact k.apart C (by simp [hC]) b hb
theorem St.known {w0 w:World} {M:List Nat} {L K R:List As} {A:As} (h:St w0 M L w) (k:Ks w0 M K) (hp:Pick K A R):A.ho w:=h.old (k.ho A hp.mem) (k.apart A hp.mem)
theorem St.knownAt {w0 w:World} {M:List Nat} {L K R:List As} {g:Nat} {o:Obj} (h:St w0 M L w) (k:Ks w0 M K) (hp:Pick K (blk g o) R):w.heap[g]?=some o:=by
 have:=h.known k hp;rwa [xp] at this
attribute [irreducible] blk As.sep
theorem gt {P:Prop} (h:P:=by first|exact H.at pk|exact H.knownAt HK pk):P:=h
theorem gq {P:Prop} (h:P:=by first|exact fun y=>(HX y).at pk|exact fun y=>(HX y).knownAt HK pk):P:=h
def nth {α:Type}:List α->Nat->Option α
 |[],_=>none
 |x::_,0=>some x
 |_::r,n+1=>nth r n
theorem YF {α:Type}:∀ (l:List α) (n:Nat),nth l n=l[n]?
 |[],n=>by cases n <;> rfl
 |x::_,0=>by simp [nth]
 |_::r,n+1=>by simp [nth,YF r n]
def Ya {α:Type}:List α->Nat->Nat->Option (List α)
 |_,0,0=>some []
 |[],_,_=>none
 |x::l,0,n+1=>match Ya l 0 n with|some r=>some (x::r)|none=>none
 |_::l,o+1,n=>Ya l o n
theorem vB {α:Type}:∀ (l:List α) (o n:Nat) (r:List α),Ya l o n=some r->(l.drop o).take n=r∧r.length=n
 |[],0,0,r,h=>by simp [Ya] at h;subst h;simp
 |x::l,0,0,r,h=>by simp [Ya] at h;subst h;simp
 |[],0,n+1,r,h=>by simp [Ya] at h
 |[],o+1,n,r,h=>by simp [Ya] at h
 |x::l,0,n+1,r,h=>by
  simp only [Ya] at h;split at h
  ·rename_i r' hr;have:=vB l 0 n r' hr;injection h with h
   subst h;simp only [yw] at this ⊢;simp [this.1,this.2]
  ·cases h
 |_::l,o+1,n,r,h=>by
  have:=vB l o n r (by simpa [Ya] using h);simpa using this
def Xw {α:Type}:List α->Nat->List α->Option (List α)
 |l,0,[]=>some l
 |[],_,_=>none
 |_::l,0,y::ys=>match Xw l 0 ys with|some r=>some (y::r)|none=>none
 |x::l,o+1,ys=>match Xw l o ys with|some r=>some (x::r)|none=>none
theorem Y6 {α:Type}:∀ (l:List α) (o:Nat) (ys r:List α),Xw l o ys=some r->o+ys.length<=l.length∧l.take o++ys++l.drop (o+ys.length)=r
 |[],0,[],r,h=>by simp [Xw] at h;subst h;simp
 |x::l,0,[],r,h=>by simp [Xw] at h;subst h;simp
 |[],0,y::ys,r,h=>by simp [Xw] at h
 |[],o+1,ys,r,h=>by cases ys <;> simp [Xw] at h
 |x::l,0,y::ys,r,h=>by
  simp only [Xw] at h;split at h
  ·rename_i r' hr;obtain ⟨h1,h2⟩:=Y6 l 0 ys r' hr;injection h with h
   subst h;simp only [jA,zv,qQ] at h1 h2;refine ⟨by simp at h1 ⊢;omega,?_⟩;simp [h2]
  ·cases h
 |x::l,o+1,ys,r,h=>by
  have h':(match Xw l o ys with|some r=>some (x::r)|none=>none)=some r:=(by cases ys <;> simpa [Xw] using h);split at h'
  ·rename_i r' hr;obtain ⟨h1,h2⟩:=Y6 l o ys r' hr;injection h' with h'
   subst h';refine ⟨by simp at h1 ⊢;omega,?_⟩;rw [← h2,show o+1+ys.length=(o+ys.length)+1 by omega];simp
  ·cases h'
def yU (a:Act):Operand->Option Value
 |.tmp t=>nth a.tmps.toList t
 |.const v=>some v
 |_=>none
theorem yg {a:Act} {x:Operand} {v:Value} (h:yU a x=some v):a.eval x=v:=by
 cases x with
 |tmp t =>
  simp only [yU,YF] at h;have:a.tmps[t]?=some v:=by simpa using h
  simp [Act.eval,this]
 |const v'=>simpa [yU,Act.eval] using h
 |global g=>simp [yU] at h
 |func f=>simp [yU] at h
def wZ:Value->Option (Array Value)
 |.agg cs=>some cs
 |v=>some #[v]
theorem vL {v:Value} {cs:Array Value} (h:wZ v=some cs):v.cells=cs:=by
 cases v <;> simpa [wZ,Value.cells] using h
section
variable {P:Program} {ops:Array Oper} {Q:Exit->Act->World->Prop} {rest:List Oper} {a:Act} {w w0:World} {M:List Nat} {L L' R:List As} {dst:Option Tmp} {ty0:TypeId} {pos:String} {aft:Array Edge} {gd:Option (Nat×Bool)}
def AtLoad (P:Program) (ops:Array Oper) (Q:Exit->Act->World->Prop) (o:Oper) (_:TypeId) (_:Operand) (rest:List Oper) (a:Act) (w:World):Prop:=wpList P ops Q (o::rest) a w
def AtStore (P:Program) (ops:Array Oper) (Q:Exit->Act->World->Prop) (o:Oper) (_:TypeId) (_ _:Operand) (rest:List Oper) (a:Act) (w:World):Prop:=wpList P ops Q (o::rest) a w
def AtBox (P:Program) (ops:Array Oper) (Q:Exit->Act->World->Prop) (o:Oper) (_:TypeId) (_:Operand) (rest:List Oper) (a:Act) (w:World):Prop:=wpList P ops Q (o::rest) a w
def AtAlloc (P:Program) (ops:Array Oper) (Q:Exit->Act->World->Prop) (o:Oper) (_:TypeId) (rest:List Oper) (a:Act) (w:World):Prop:=wpList P ops Q (o::rest) a w
theorem qh {t:TypeId} {x:Operand} (h:AtLoad P ops Q ⟨dst,.load t x,ty0,pos,aft,gd⟩ t x rest a w):wpList P ops Q (⟨dst,.load t x,ty0,pos,aft,gd⟩::rest) a w:=h
theorem yl {t:TypeId} {x y:Operand} (h:AtStore P ops Q ⟨dst,.store t x y,ty0,pos,aft,gd⟩ t x y rest a w):wpList P ops Q (⟨dst,.store t x y,ty0,pos,aft,gd⟩::rest) a w:=h
theorem isBox {t:TypeId} {x:Operand} (h:AtBox P ops Q ⟨dst,.box t x,ty0,pos,aft,gd⟩ t x rest a w):wpList P ops Q (⟨dst,.box t x,ty0,pos,aft,gd⟩::rest) a w:=h
theorem isAlloc {t:TypeId} (h:AtAlloc P ops Q ⟨dst,.alloc t,ty0,pos,aft,gd⟩ t rest a w):wpList P ops Q (⟨dst,.alloc t,ty0,pos,aft,gd⟩::rest) a w:=h
def jt (P:Program) (ty:TypeId) (n:Nat):Bool:=(match P.underlying ty with|some (.struct _)|some (.array _ _)=>true|_=>false)&&(P.info? ty).map (·.size)==some n
def xj (P:Program) (ty:TypeId):Bool:=(match P.underlying ty with|some (.struct _)|some (.array _ _)|none=>false|_=>true)&&(P.info? ty).map (·.size)==some 1
theorem jF {ty:TypeId} {n g o:Nat} {cs:Array Value} {t:TypeId} {fr:Nat×Nat} {vs:List Value} (hr:jt P ty n=true) (hg:w.heap[g]?=some (.cells cs t fr)) (hl:(cs.toList.drop o).take n=vs) (hn:vs.length=n) :
  (Instr.loadAt ty (.pointer (some ⟨g,o,none⟩))).run P w=.ok (.agg vs.toArray) w:=by
 unfold jt at hr;simp only [zu,beq_iff_eq] at hr;have hc:w.rangeAt g o vs:=fun j v hv=>by
  rw [cell_of_row w g (o+j) cs t fr hg];subst hl;rw [wh] at hv;split at hv
  ·rw [yh] at hv;simpa using hv
  ·cases hv
 cases hu:P.underlying ty with
 |none=>simp [hu] at hr
 |some d=>exact run_loadAt_mid w g o ty vs d hc hu (by simp only [hu] at hr;cases d <;> simp_all [TypeDesc.isRow]) (by rw [hn];exact hr.2)
theorem vF {ty:TypeId} {g o:Nat} {cs:Array Value} {t:TypeId} {fr:Nat×Nat} {v:Value} (hr:xj P ty=true) (hg:w.heap[g]?=some (.cells cs t fr)) (hv:cs[o]?=some v) :
  (Instr.loadAt ty (.pointer (some ⟨g,o,none⟩))).run P w=.ok v w:=by
 unfold xj at hr;simp only [zu,beq_iff_eq] at hr;have hc:w.cell? ⟨g,o,none⟩=some v:=(by rw [cell_of_row w g o cs t fr hg];exact hv);cases hu:P.underlying ty with
 |none=>simp [hu] at hr
 |some d =>
  have hagg:(isAgg ty).run P w=.ok false w:=by
   unfold isAgg;rw [Sem.run_bind,run_underlying hu w];simp only [hu] at hr;cases d <;> simp_all
  simp [Instr.loadAt,Instr.sureAddr,loadVar,Sem.run_bind,hagg,run_load,hc]
theorem AtLoad.row {o1:Oper} {ty:TypeId} {x:Operand} (hw:Region.wanted o1 (yielded ops a.tmps)=true) (ho:o1.op=.load ty x) (n:Nat) {g o:Nat} (hx:a.eval x=.pointer (some ⟨g,o,none⟩)) {cs:Array Value} {t:TypeId} {fr:Nat×Nat} (hg:w.heap[g]?=some (.cells cs t fr))
  (hr:jt P ty n=true) {vs:List Value} (hl:(cs.toList.drop o).take n=vs) (hn:vs.length=n)
  (h:wpList P ops Q rest (a.put o1.dst (.agg vs.toArray)) w):AtLoad P ops Q o1 ty x rest a w :=
 wpList_step fun _ hK=>by
  rw [if_pos hw];unfold Oper.wp execOp;simp only [ho,hx,Sem.run_bind,jF hr hg hl hn,Result.andThen_ok];exact hK _ _ h
theorem AtLoad.whole {o1:Oper} {ty:TypeId} {x:Operand} (hw:Region.wanted o1 (yielded ops a.tmps)=true) (ho:o1.op=.load ty x) {g:Nat} (hx:a.eval x=.pointer (some ⟨g,0,none⟩)) {cs:Array Value} {t:TypeId} {fr:Nat×Nat} (hg:w.heap[g]?=some (.cells cs t fr))
  (hr:jt P ty cs.size=true) (h:wpList P ops Q rest (a.put o1.dst (.agg cs)) w):AtLoad P ops Q o1 ty x rest a w :=
 AtLoad.row hw ho cs.size hx hg hr (vs:=cs.toList) (by simp only [yw];exact qp (by simp)) (by simp) (by simpa using h)
theorem AtLoad.cell {o1:Oper} {ty:TypeId} {x:Operand} (hw:Region.wanted o1 (yielded ops a.tmps)=true) (ho:o1.op=.load ty x) {g o:Nat} (hx:a.eval x=.pointer (some ⟨g,o,none⟩)) {cs:Array Value} {t:TypeId} {fr:Nat×Nat} (hg:w.heap[g]?=some (.cells cs t fr))
  (hr:xj P ty=true) {v:Value} (hv:nth cs.toList o=some v) (h:wpList P ops Q rest (a.put o1.dst v) w):AtLoad P ops Q o1 ty x rest a w :=
 wpList_step fun _ hK=>by
  rw [if_pos hw];unfold Oper.wp execOp;simp only [ho,hx,Sem.run_bind,vF hr hg (by rw [YF] at hv;simpa using hv),Result.andThen_ok];exact hK _ _ h
theorem AtLoad.rng {o1:Oper} {ty:TypeId} {x:Operand} (hw:Region.wanted o1 (yielded ops a.tmps)=true) (ho:o1.op=.load ty x) {g o:Nat} (hx:a.eval x=.pointer (some ⟨g,o,none⟩)) {vs:List Value} (hc:w.rangeAt g o vs)
  (hr:jt P ty vs.length=true) (h:wpList P ops Q rest (a.put o1.dst (.agg vs.toArray)) w):AtLoad P ops Q o1 ty x rest a w :=
 wpList_step fun _ hK=>by
  rw [if_pos hw];unfold jt at hr;simp only [zu,beq_iff_eq] at hr;unfold Oper.wp execOp;cases hu:P.underlying ty with
  |none=>simp [hu] at hr
  |some d =>
   simp only [ho,hx,Sem.run_bind,run_loadAt_mid w g o ty vs d hc hu (by simp only [hu] at hr;cases d <;> simp_all [TypeDesc.isRow]) hr.2,Result.andThen_ok];exact hK _ _ h
theorem AtBox.go {o1:Oper} {ty:TypeId} {x:Operand} (H:St w0 M L w) (hw:Region.wanted o1 (yielded ops a.tmps)=true) (ho:o1.op=.box ty x) {v:Value} (hx:yU a x=some v) {cs:Array Value} (hc:wZ v=some cs)
  (h:∀ b w',St w0 M (blk b (.cells cs ty)::L) w'->wpList P ops Q rest (a.put o1.dst (.pointer (some ⟨b,0,none⟩))) w'):AtBox P ops Q o1 ty x rest a w :=
 wpList_step fun _ hK=>by
  rw [if_pos hw];unfold Oper.wp execOp;simp only [ho,yg hx,Instr.box,newVar,newRow,vL hc,Sem.run_bind,run_newObj_alloc,Result.andThen_ok,Sem.run_pure];exact hK _ _ (h _ _ (H.alloc _))
theorem AtAlloc.go {o1:Oper} {ty:TypeId} (H:St w0 M L w) (hw:Region.wanted o1 (yielded ops a.tmps)=true) (ho:o1.op=.alloc ty) {z:Value} (hz:∀ w,(zeroValue ty).run P w=.ok z w) {cs:Array Value} (hc:wZ z=some cs)
  (h:∀ b w',St w0 M (blk b (.cells cs ty)::L) w'->wpList P ops Q rest (a.put o1.dst (.pointer (some ⟨b,0,none⟩))) w'):AtAlloc P ops Q o1 ty rest a w :=
 wpList_step fun _ hK=>by
  rw [if_pos hw];unfold Oper.wp execOp;simp only [ho,Instr.alloc,hz,newVar,newRow,vL hc,Sem.run_bind,run_newObj_alloc,Result.andThen_ok,Sem.run_pure];exact hK _ _ (h _ _ (H.alloc _))
theorem AtStore.mid {o1:Oper} {ty:TypeId} {x y:Operand} (H:St w0 M L w) (hw:Region.wanted o1 (yielded ops a.tmps)=true) (ho:o1.op=.store ty x y) {g o:Nat} (hx:a.eval x=.pointer (some ⟨g,o,none⟩)) {v:Value} (hy:yU a y=some v) {vs:Array Value} (hv:wZ v=some vs)
  (hi:(P.info? ty).map (·.size)=some vs.size) (h1:vs.all (·.oneCell')=true) {cs cs':Array Value} {t:TypeId}
  (hp:Upd L (blk g (.cells cs t)) (blk g (.cells cs' t)) L') (hl:o+vs.size<=cs.size) (hn:(cs.toList.take o++vs.toList++cs.toList.drop (o+vs.size)).toArray=cs')
  (h:∀ w',St w0 M L' w'->wpList P ops Q rest (a.put o1.dst undef) w'):AtStore P ops Q o1 ty x y rest a w :=
 wpList_step fun _ hK=>by
  rw [if_pos hw];obtain rfl:=vL hv;obtain ⟨R,hR,_⟩:=hp.pick;have hg:w.heap[g]?=some (.cells cs t):=(by have:=H.ho _ (hR.mem_iff.2 zN);rwa [xp] at this);unfold Oper.wp execOp;simp only [ho,hx,yg hy,Instr.storeAt,Instr.sureAddr,Sem.run_bind,Sem.run_pure,Result.andThen_ok,ks w g o t ty cs v hg hi hl (fun u hu=>by simpa using Array.all_eq_true'.1 h1 u (by simpa using hu))];refine hK _ _ (h _ ?_);rw [hn];exact H.setRow hp
theorem AtStore.whole {o1:Oper} {ty:TypeId} {x y:Operand} (H:St w0 M L w) (hw:Region.wanted o1 (yielded ops a.tmps)=true) (ho:o1.op=.store ty x y) {g:Nat} (hx:a.eval x=.pointer (some ⟨g,0,none⟩)) {cs':Array Value} (hy:yU a y=some (.agg cs'))
  (hi:(P.info? ty).map (·.size)=some cs'.size) (h1:cs'.all (·.oneCell')=true) {cs:Array Value} {t:TypeId}
  (hp:Upd L (blk g (.cells cs t)) (blk g (.cells cs' t)) L') (hl:cs.size=cs'.size)
  (h:∀ w',St w0 M L' w'->wpList P ops Q rest (a.put o1.dst undef) w'):AtStore P ops Q o1 ty x y rest a w :=
 AtStore.mid H hw ho hx hy rfl hi h1 hp (by omega) (by simp only [jA,zv,qQ];rw [yo (by simp;omega)];simp) h
theorem AtStore.cell {o1:Oper} {ty:TypeId} {x y:Operand} (H:St w0 M L w) (hw:Region.wanted o1 (yielded ops a.tmps)=true) (ho:o1.op=.store ty x y) {g o:Nat} (hx:a.eval x=.pointer (some ⟨g,o,none⟩)) {v:Value} (hy:yU a y=some v)
  (h1:v.oneCell'=true) (hi:(P.info? ty).map (·.size)=some 1) {cs cs':Array Value} {t:TypeId}
  (hp:Upd L (blk g (.cells cs t)) (blk g (.cells cs' t)) L') (hl:o<cs.size) (hn:cs.setIfInBounds o v=cs')
  (h:∀ w',St w0 M L' w'->wpList P ops Q rest (a.put o1.dst undef) w'):AtStore P ops Q o1 ty x y rest a w:=by
 have hc:wZ v=some #[v]:=(by cases v <;> first|rfl|cases h1);refine AtStore.mid H hw ho hx hy hc hi (by simp [h1]) hp (by simp;omega) ?_ h;rw [← hn];apply yr;intro j;have hj:o<=cs.size:=(by omega);simp only [List.getElem?_toArray,XR,zQ,yS,qg,Array.length_toList,kF hj,wh,yh,Array.getElem?_toList];by_cases h2:j<o
 ·simp [h2];intro h5;omega
 ·by_cases h3:o=j
  ·subst h3;simp [hl]
  ·have h4:¬ j-o<1:=(by omega);simp [h2,h3];rw [if_neg (by omega)];congr 1;omega
end
end Go.Proofs.YtgnppnokkdghcaaGreatDoor
end
namespace Go.Proofs.YtgnppnokkdghcaaGreatDoor
section
open Go.RowKit
theorem St.onlyTwo {w0 w:World} {M:List Nat} {L:List As} {A B:As} (h:St w0 M (A::B::L) w):St w0 M [A,B] w:=⟨h.os,h.tape,h.output,h.size,h.keep,fun C hC=>h.ho C (by simp at hC;rcases hC with h|h <;> simp [h]),fun C hC=>h.own C (by simp at hC;rcases hC with h|h <;> simp [h]),by
 have:=qu.1 h.dis;simpa using this.1 B (by simp)⟩
section
variable {P:Program} {Q:Exit->Act->World->Prop} {a:Act} {w w0:World} {M:List Nat} {L R:List As}
def valK:Option Nat->Nat->Value
 |none,b=>.pointer (some ⟨b,0,none⟩)
 |some k,b=>.slice (some ⟨b,0,none⟩) k k
theorem Z3 (k:Option Nat) (b:Nat):wB (valK k b)=some b:=by cases k <;> rfl
def IsNew (n:Nat) (xs:Array Value) (t:TypeId) (k:Option Nat) (v:Value) (w:World):Prop:=∃ b,v=valK k b∧n<=b∧w.heap[b]?=some (.cells xs t)
theorem IsNew.stable (n:Nat) (xs:Array Value) (t:TypeId) (k:Option Nat):∀ v w w',Grew w w'->IsNew n xs t k v w->IsNew n xs t k v w':=fun _ _ _ hg ⟨b,hv,hn,hb⟩=>⟨b,hv,hn,xq hg hb⟩
abbrev QG:=Nat×TypeId×Array Value×Option Nat
def KJ (n0:Nat) (Fs:List QG):List (Nat×(Value->World->Prop)):=Fs.map fun f=>(f.1,IsNew n0 f.2.2.1 f.2.1 f.2.2.2)
def Xb (bs:Nat->Nat):Nat->List QG->List As
 |_,[]=>[]
 |k,(n,ty,cs,_)::Fs=>blk (bs (k+n)) (.cells cs ty)::Xb bs (k+n+1) Fs
def putB (bs:Nat->Nat):List QG->List (Nat×Tmp)->Act->Act
 |f::Fs,p::S,a=>putB bs Fs S (a.put (some p.2) (valK f.2.2.2 (bs p.1)))
 |_,_,a=>a
theorem Xo (n0:Nat):∀ (Fs:List QG),nsF (KJ n0 Fs)=Fs.map (·.1)
 |[]=>rfl
 |_::Fs=>by simp only [nsF,KJ,zX];exact congrArg _ (Xo n0 Fs)
theorem Xt (n0:Nat):∀ (Fs:List QG),XC (KJ n0 Fs)
 |[]=>trivial
 |_::Fs=>⟨IsNew.stable _ _ _ _,Xt n0 Fs⟩
theorem WC:∀ (ns:List Nat) (k x:Nat),x∈yy k ns->k<=x
 |[],_,_,h=>by simp [yy] at h
 |n::ns,k,x,h=>by
  simp only [yy,zL] at h;rcases h with rfl|h
  ·omega
  ·have:=WC ns _ _ h;omega
theorem Jn {n0:Nat} {vals:Nat->Value} {w':World}:∀ (Fs:List QG) (k:Nat),XT vals w' k (KJ n0 Fs)->∀ i∈yy k (Fs.map (·.1)),∃ b,wB (vals i)=some b∧n0<=b
 |[],_,_,i,hi=>by simp [yy] at hi
 |(n,ty,cs,kd)::Fs,k,h,i,hi=>by
  obtain ⟨⟨b,hb1,hb2,_⟩,h2⟩:=h;simp only [zX,yy,zL] at hi;rcases hi with rfl|hi
  ·exact ⟨b,by simp only at hb1;rw [hb1];exact Z3 _ _,hb2⟩
  ·exact Jn Fs _ h2 i hi
theorem V3 {n0:Nat} {vals:Nat->Value} {w':World} (H:St w0 M L w') (hn0:w0.heap.size<=n0) (hL:∀ A∈L,∀ b∈A.fp,b<n0):∀ (Fs:List QG) (k:Nat),XT vals w' k (KJ n0 Fs) ->
  (∀ i∈yy k (Fs.map (·.1)),∀ j∈yy k (Fs.map (·.1)),i≠j->wB (vals i)≠wB (vals j)) ->
  St w0 M (Xb (fun i=>(wB (vals i)).getD 0) k Fs++L) w'∧∀ A∈Xb (fun i=>(wB (vals i)).getD 0) k Fs,∃ i∈yy k (Fs.map (·.1)),A.fp=[(wB (vals i)).getD 0]
 |[],_,_,_=>⟨H,by simp [Xb]⟩
 |(n,ty,cs,kd)::Fs,k,h,hd=>by
  obtain ⟨⟨b,hb1,hb2,hb3⟩,h2⟩:=h;have hsub:∀ i,i∈yy (k+n+1) (Fs.map (·.1))->i∈yy k (((n,ty,cs,kd)::Fs).map (·.1)):=fun i hi=>by simp only [zX,yy,zL];exact .inr hi
  obtain ⟨ih,ihf⟩:=V3 H hn0 hL Fs (k+n+1) h2 (fun i hi j hj=>hd i (hsub i hi) j (hsub j hj));have e:(wB (vals (k+n))).getD 0=b:=(by simp only at hb1;rw [hb1,Z3];rfl);have hk:k+n∈yy k (((n,ty,cs,kd)::Fs).map (·.1)):=(by simp [yy]);simp only [Xb,zo];refine ⟨⟨ih.os,ih.tape,ih.output,ih.size,ih.keep,fun A hA=>?_,fun A hA c hc=>?_,qu.2 ⟨fun A hA c hc=>?_,ih.dis⟩⟩,fun A hA=>?_⟩
  ·rcases zL.1 hA with rfl|hA
   ·rw [xp,e];exact hb3
   ·exact ih.ho A hA
  ·rcases zL.1 hA with rfl|hA
   ·rw [w8,e] at hc;simp at hc;subst hc;exact .inl (qs hn0 hb2)
   ·exact ih.own A hA c hc
  ·rw [w8,e] at hc;simp at hc;subst hc;rcases zl.1 hA with hA|hA
   ·obtain ⟨i,hi,hf⟩:=ihf A hA;rw [hf];have hne:k+n≠i:=(by have:=WC _ _ _ hi;omega);have:=hd (k+n) hk i (hsub i hi) hne;obtain ⟨b',hb',_⟩:=Jn Fs _ h2 i hi;simp only at hb1;rw [hb1,Z3,hb'] at this;rw [hb'];simpa using this
   ·intro hc;have:=hL A hA _ hc;omega
  ·rcases zL.1 hA with rfl|hA
   ·exact ⟨k+n,hk,by rw [w8]⟩
   ·obtain ⟨i,hi,hf⟩:=ihf A hA;exact ⟨i,hsub i hi,hf⟩
theorem JO {n0:Nat} {vals:Nat->Value} {w':World}:∀ (Fs:List QG) (k:Nat) (S:List (Nat×Tmp)) (a:Act),S.map (·.1)=yy k (Fs.map (·.1))->XT vals w' k (KJ n0 Fs)->yu S vals a=putB (fun i=>(wB (vals i)).getD 0) Fs S a
 |[],_,[],_,_,_=>rfl
 |[],_,p::S,_,h,_=>by simp [yy] at h
 |(n,ty,cs,kd)::Fs,k,[],_,h,_=>by simp [yy] at h
 |(n,ty,cs,kd)::Fs,k,p::S,a,h,hE=>by
  obtain ⟨⟨b,hb1,hb2,hb3⟩,h2⟩:=hE;simp only [zX,yy,Zq.injEq] at h;simp only at hb1;show yu S vals (a.put (some p.2) (vals p.1))=putB _ Fs S (a.put (some p.2) _)
  rw [JO Fs (k+n+1) S _ h.2 h2,h.1,hb1];simp only [hb1,Z3,Option.getD_some]
theorem zG {id:Nat} {l:List Oper} (H:St w0 M L w) (m:Nat) (Fs:List QG) (S:List (Nat×Tmp)) (hm:P.follows .mixedOrders=true)
  (hB:qaB l m (Fs.map (·.1)) S=true) (h:∃ A:Act,(∀ w1,w.heap.size<=w1.heap.size->(∀ x:Gr w1,St w0 M L x.1)->YP P l.toArray w1 (fun a'=>a'=A) (KJ w.heap.size Fs) (l.take m) a) ∧
  ∀ (bs:Nat->Nat) (w':World),St w0 M (Xb bs 0 Fs++L) w'->wpList P l.toArray Q (l.drop m) (putB bs Fs S A) w'):(Code.region id l.toArray true).wp P Q a w:=by
 obtain ⟨A,hA,fin⟩:=h;have hS:S.map (·.1)=yy 0 (Fs.map (·.1)):=by
  simp only [qaB,zu,decide_eq_true_eq] at hB;exact hB.1.1.2
 refine KX m (KJ w.heap.size Fs) S hm (by rw [Xo];exact hB) (Xt _ _) A (fun w1 hg=>hA w1 hg.size fun x=>H.grew (Grew.trans hg x.2)) fun vals w' hg hE hd=>?_
 rw [hS] at hd;obtain ⟨h1,_⟩:=V3 (H.grew hg) H.size (fun A hA b hb=>H.fpLt hA b hb) Fs 0 hE hd;have h2:=fin _ w' h1;rw [JO Fs 0 S A hS hE];exact h2
theorem Vi {ops:Array Oper} {w1:World} {o:Oper} {a:Act} {n:Nat} {cs:Array Value} {ty:TypeId} (hgd:Region.wanted o (yielded ops a.tmps)=true) (ho:o.op=.alloc ty) (hn:n<=w1.heap.size) {z:Value} (hz:∀ w,(zeroValue ty).run P w=.ok z w) (hc:wZ z=some cs):YR P ops w1 o a (IsNew n cs ty none):=by
 refine ⟨hgd,fun w' hg=>?_⟩;unfold Zb execOp;simp only [ho,Instr.alloc,Sem.run_bind,hz,Result.andThen_ok,newVar,newRow,vL hc,run_newObj_alloc,Sem.run_pure];exact ⟨grew_alloc _ _,⟨_,rfl,qs hn hg.size,Kw _ _ _ rfl⟩,w'.heap.size,rfl,zr _,by simp⟩
section
variable {ops:Array Oper} {C:World->Prop} {K:Act->Prop} {rest:List Oper} {dst:Option Tmp} {ty0:TypeId} {pos:String} {aft:Array Edge} {gd:Option (Nat×Bool)} {w1:World}
def QtLoad (P:Program) (ops:Array Oper) (C:World->Prop) (K:Act->Prop) (o:Oper) (_:TypeId) (_:Operand) (rest:List Oper) (a:Act):Prop:=wpQuiet P ops C K (o::rest) a
theorem yp {t:TypeId} {x:Operand} (h:QtLoad P ops C K ⟨dst,.load t x,ty0,pos,aft,gd⟩ t x rest a):wpQuiet P ops C K (⟨dst,.load t x,ty0,pos,aft,gd⟩::rest) a:=h
theorem QtLoad.row {o1:Oper} {ty:TypeId} {x:Operand} (hw:Region.wanted o1 (yielded ops a.tmps)=true) (ho:o1.op=.load ty x) (n:Nat) {g o:Nat} (hx:a.eval x=.pointer (some ⟨g,o,none⟩)) {cs:Array Value} {t:TypeId} {fr:Nat×Nat} (hg:∀ y:Gr w1,y.1.heap[g]?=some (.cells cs t fr))
  (hr:jt P ty n=true) {vs:List Value} (hl:(cs.toList.drop o).take n=vs) (hn:vs.length=n)
  (h:wpQuiet P ops (qt w1) K rest (a.put o1.dst (.agg vs.toArray))):QtLoad P ops (qt w1) K o1 ty x rest a :=
 wpQuiet_step fun _ hK=>by
  rw [if_pos hw];refine ⟨.agg vs.toArray,fun w2 ⟨y,hy⟩=>?_,hK _ h⟩;subst hy;unfold Oper.quietAt execOp;simp only [ho,hx,Sem.run_bind,jF hr (hg y) hl hn,Result.andThen_ok];exact ⟨rfl,rfl⟩
theorem QtLoad.whole {o1:Oper} {ty:TypeId} {x:Operand} (hw:Region.wanted o1 (yielded ops a.tmps)=true) (ho:o1.op=.load ty x) {g:Nat} (hx:a.eval x=.pointer (some ⟨g,0,none⟩)) {cs:Array Value} {t:TypeId} {fr:Nat×Nat} (hg:∀ y:Gr w1,y.1.heap[g]?=some (.cells cs t fr))
  (hr:jt P ty cs.size=true) (h:wpQuiet P ops (qt w1) K rest (a.put o1.dst (.agg cs))):QtLoad P ops (qt w1) K o1 ty x rest a :=
 QtLoad.row hw ho cs.size hx hg hr (vs:=cs.toList) (by simp only [yw];exact qp (by simp)) (by simp) (by simpa using h)
theorem QtLoad.cell {o1:Oper} {ty:TypeId} {x:Operand} (hw:Region.wanted o1 (yielded ops a.tmps)=true) (ho:o1.op=.load ty x) {g o:Nat} (hx:a.eval x=.pointer (some ⟨g,o,none⟩)) {cs:Array Value} {t:TypeId} {fr:Nat×Nat} (hg:∀ y:Gr w1,y.1.heap[g]?=some (.cells cs t fr))
  (hr:xj P ty=true) {v:Value} (hv:nth cs.toList o=some v) (h:wpQuiet P ops (qt w1) K rest (a.put o1.dst v)):QtLoad P ops (qt w1) K o1 ty x rest a :=
 wpQuiet_step fun _ hK=>by
  rw [if_pos hw];refine ⟨v,fun w2 ⟨y,hy⟩=>?_,hK _ h⟩;subst hy;unfold Oper.quietAt execOp;simp only [ho,hx,Sem.run_bind,vF hr (hg y) (by rw [YF] at hv;simpa using hv),Result.andThen_ok];exact ⟨rfl,rfl⟩
theorem QtLoad.rng {o1:Oper} {ty:TypeId} {x:Operand} (hw:Region.wanted o1 (yielded ops a.tmps)=true) (ho:o1.op=.load ty x) {g o:Nat} (hx:a.eval x=.pointer (some ⟨g,o,none⟩)) {vs:List Value} (hc:∀ y:Gr w1,y.1.rangeAt g o vs)
  (hr:jt P ty vs.length=true) (h:wpQuiet P ops (qt w1) K rest (a.put o1.dst (.agg vs.toArray))):QtLoad P ops (qt w1) K o1 ty x rest a :=
 wpQuiet_step fun _ hK=>by
  rw [if_pos hw];unfold jt at hr;simp only [zu,beq_iff_eq] at hr;refine ⟨.agg vs.toArray,fun w2 ⟨y,hy⟩=>?_,hK _ h⟩;subst hy;unfold Oper.quietAt execOp;cases hu:P.underlying ty with
  |none=>simp [hu] at hr
  |some d =>
   simp only [ho,hx,Sem.run_bind,run_loadAt_mid y.1 g o ty vs d (hc y) hu (by simp only [hu] at hr;cases d <;> simp_all [TypeDesc.isRow]) hr.2,Result.andThen_ok];exact ⟨rfl,rfl⟩
end
theorem VN {f:FuncId} {args:Array Value} {v:Value} {w:World} {x:Gr w} (h:Calls P f args x.1 fun e w'=>e=.returned v∧St x.1 [] [] w'):Calls P f args x.1 fun e w''=>e=.returned v∧qt w w'' :=
 WI (h.mono fun _ _ ⟨he,hs⟩=>⟨he,hs.below⟩)
theorem res_h {fn:Func} {p:Tmp} {ty:TypeId} (h:fn.results=#[.cell p ty]) (H:St w0 M L w) {tmps:Array Value} {g:Nat} {cs:Array Value} {t:TypeId} {fr:Nat×Nat} (hp:tmps.getD p undef=.pointer (some ⟨g,0,none⟩)) (hk:Pick L (blk g (.cells cs t fr)) R) (hr:jt P ty cs.size=true) :
  (results fn tmps).run P w=.ok (.agg cs) w:=by
 have hl:=jF (w:=w) hr (H.at hk) (o:=0) (vs:=cs.toList) (by simp only [yw];exact qp (by simp)) (by simp);simp only [Instr.loadAt,Instr.sureAddr,Sem.run_bind,Sem.run_pure,Result.andThen_ok] at hl;have hp':tmps[p]?.getD undef=.pointer (some ⟨g,0,none⟩):=(by simpa using hp);simp [results,h,hp',asAddr,hl]
theorem res_h_tmp {fn:Func} {p u:Tmp} {ty:TypeId} (h:fn.results=#[.cell p ty,.tmp u]) (H:St w0 M L w) {tmps:Array Value} {g:Nat} {cs:Array Value} {t:TypeId} {fr:Nat×Nat} (hp:tmps.getD p undef=.pointer (some ⟨g,0,none⟩)) (hk:Pick L (blk g (.cells cs t fr)) R) (hr:jt P ty cs.size=true) {x:Value} (hx:tmps.getD u undef=x) :
  (results fn tmps).run P w=.ok (.tuple #[.agg cs,x]) w:=by
 have hl:=jF (w:=w) hr (H.at hk) (o:=0) (vs:=cs.toList) (by simp only [yw];exact qp (by simp)) (by simp);simp only [Instr.loadAt,Instr.sureAddr,Sem.run_bind,Sem.run_pure,Result.andThen_ok] at hl;rw [results_cell_tmp h,hp,hx];simp [asAddr,hl,Result.andThen]
end
end
section
open Go.RowKit
structure OS where
 use:List Nat
 rd:List Nat
 D:List Nat
 R:Value->List Value->Prop
 Y:Value->List Value->List As
def OS.nil:OS:=⟨[],[],[],fun _ _=>True,fun _ _=>[]⟩
def sAt (Ss:List OS) (k:Nat):OS:=Ss.getD k OS.nil
def kS (Ss:List OS) (vals:Nat->Value) (k:Nat):Prop:=(sAt Ss k).R (vals k) ((sAt Ss k).D.map vals)
def ZQ (Ss:List OS) (vals:Nat->Value) (k:Nat):List As:=(sAt Ss k).Y (vals k) ((sAt Ss k).D.map vals)
def w7 (Ss:List OS) (vals:Nat->Value) (is:List Nat):List As:=is.flatMap (ZQ Ss vals)
def jZ (Ss:List OS) (order:List Nat):List Nat:=order.filter fun i=>order.all fun k=>!(sAt Ss k).use.contains i
def wn (m:Nat) (Ss:List OS):List Nat:=(zk Ss.length).filter fun i=>decide (m<=i)
def rgB (ops:Array Oper) (m:Nat) (Ss:List OS):Bool :=
 Wg ops m&&decide (m<=Ss.length) &&
 ((zk m).all fun k=>(((sAt Ss k).use++(sAt Ss k).rd).all fun i=>(wn m Ss).contains i || (decide (i<m)&&x9 ops ops.size k i))&&((sAt Ss k).D.all fun i=>decide (i<m)&&x9 ops ops.size k i) &&
  decide (((sAt Ss k).use++(sAt Ss k).rd).Nodup) &&
  ((zk m).all fun k2=>decide (k=k2) || ((sAt Ss k).use.all fun i=>!(sAt Ss k2).use.contains i&&(!(sAt Ss k2).rd.contains i || x9 ops ops.size k k2)))) &&
 ((wn m Ss).all fun k=>(sAt Ss k).use.isEmpty&&(sAt Ss k).D.isEmpty)
section
variable {P:Program} {ops:Array Oper}
def yM (P:Program) (R:Value->World->Prop):Result Next->Prop
 |.ok (.value v) w'=>R v w'
 |.ok .skip w'=>R undef w'
 |.ok (.enter f args) w'=>Calls P f args w' fun e w''=>∃ v,e=.returned v∧R v w''
 |_=>False
def jw (P:Program) (o:Oper) (a:Act) (w:World) (R:Value->World->Prop):Prop:=yM P R ((execOp a.eval o).run P w)
def StStep (P:Program) (ops:Array Oper) (o:Oper) (a:Act) (w:World) (R:Value->World->Prop):Prop :=
 if Region.wanted o (yielded ops a.tmps) then jw P o a w R else R undef w
theorem KG {Ss:List OS} {v v':Nat->Value} {k:Nat} (h:v k=v' k) (hD:∀ i∈(sAt Ss k).D,v i=v' i):ZQ Ss v k=ZQ Ss v' k:=by
 unfold ZQ;rw [h,Ym hD]
theorem asOf_congr {Ss:List OS} {v v':Nat->Value} {is:List Nat} (h:∀ k∈is,v k=v' k∧∀ i∈(sAt Ss k).D,v i=v' i):w7 Ss v is=w7 Ss v' is:=by
 unfold w7;induction is with
 |nil=>rfl
 |cons k is ih =>
  simp only [zt];rw [KG (h k (by simp)).1 (h k (by simp)).2,ih fun j hj=>h j (by simp [hj])]
theorem ZC (Ss:List OS) (v:Nat->Value) (is js:List Nat):w7 Ss v (is++js)=w7 Ss v is++w7 Ss v js:=by simp [w7]
theorem Yr {Ss:List OS} {v:Nat->Value} {is js:List Nat} (h:is.Perm js):(w7 Ss v is).Perm (w7 Ss v js):=h.flatMap_right _
theorem perm_split {l s:List Nat} (hl:l.Nodup) (hs:s.Nodup) (h:∀ i∈s,i∈l):l.Perm (s++l.filter fun i=>!s.contains i):=by
 have hn:(s++l.filter fun i=>!s.contains i).Nodup:=yT.2 ⟨hs,hl.filter _,fun a ha b hb e=>by
  subst e;have:=(qD.1 hb).2;simp [ha] at this⟩
 rw [vu hl hn];intro a;simp only [zl,qD,Zv,w6,decide_eq_false_iff_not];constructor
 ·intro ha;by_cases hs':a∈s
  ·exact .inl hs'
  ·exact .inr ⟨ha,hs'⟩
 ·rintro (ha|ha)
  ·exact h a ha
  ·exact ha.1
theorem wpAny_rg {m:Nat} {Ss:List OS} (hB:rgB ops m Ss=true) {Q:Exit->Act->World->Prop} (w0:World) (M:List Nat) (L:List As) (a0:Act)
  (step:∀ k o,k<m->ops[k]?=some o->∀ vals w X,(∀ i∈(sAt Ss k).D,kS Ss vals i)->St w0 M (w7 Ss vals (sAt Ss k).use++(w7 Ss vals (sAt Ss k).rd++(L++X))) w ->
   StStep P ops o (zZ ops vals (qm ops k) a0) w fun v w'=>(sAt Ss k).R v ((sAt Ss k).D.map vals)∧St w0 M ((sAt Ss k).Y v ((sAt Ss k).D.map vals)++(w7 Ss vals (sAt Ss k).rd++(L++X))) w')
  (fin:∀ vals w,(∀ i,i<m->kS Ss vals i)->St w0 M (w7 Ss vals (jZ Ss (wn m Ss++zk m))++L) w->wpAny P .any ops Q (ops.size-m) (wJ ops.size m) (zZ ops vals (zk m) a0) w) :
  ∀ (d:Nat) (order:List Nat) (listed:Array Bool) (vals:Nat->Value) (w:World),d+order.length=m->order.Nodup->(∀ i∈order,i<m)->listed.size=ops.size ->
   (∀ j,j<ops.size->listed[j]?=some (decide (j∈order)))->St w0 M (w7 Ss vals (jZ Ss (wn m Ss++order))++L) w->(∀ i∈order,kS Ss vals i) ->
   (∀ k∈order,∀ o,ops[k]?=some o->∀ e∈o.after,Region.binds .any e=true->e.on∈order) ->
   wpAny P .any ops Q (ops.size-order.length) listed (zZ ops vals order a0) w:=by
 simp only [rgB,zu] at hB;obtain ⟨⟨⟨hB1,hB0⟩,hB2⟩,hB3⟩:=hB;have hok:jy ops m []:=jV hB1;have hvo:∀ i,i∈wn m Ss->m<=i:=fun i hi=>by simpa using (qD.1 hi).2
 have hvn:(wn m Ss).Nodup:=List.nodup_range.filter _;have hvu:∀ k∈wn m Ss,(sAt Ss k).use=[]∧(sAt Ss k).D=[]:=fun k hk=>by
  have:=zF.1 hB3 k hk;simpa using this
 have hSp:∀ k,k<m->(∀ i,i∈(sAt Ss k).use∨i∈(sAt Ss k).rd->i∈wn m Ss∨x9 ops ops.size k i=true)∧(∀ i∈(sAt Ss k).D,x9 ops ops.size k i=true)∧((sAt Ss k).use++(sAt Ss k).rd).Nodup ∧
   (∀ k2,k2<m->k≠k2->∀ i∈(sAt Ss k).use,i ∉ (sAt Ss k2).use∧(i∈(sAt Ss k2).rd->x9 ops ops.size k k2=true)):=fun k hk=>by
  have:=zF.1 hB2 k (zJ.2 hk);simp only [zu,decide_eq_true_eq] at this;obtain ⟨⟨⟨h1,h1'⟩,h2⟩,h3⟩:=this;refine ⟨fun i hi=>?_,fun i hi=>?_,h2,fun k2 hk2 hne i hi=>?_⟩
  ·have:=zF.1 h1 i (zl.2 hi);simp only [vg,zu,decide_eq_true_eq,w6] at this;exact this.imp id (·.2)
  ·have:=zF.1 h1' i hi;simp only [zu] at this;exact this.2
  ·have:=zF.1 h3 k2 (zJ.2 hk2);simp only [vg,decide_eq_true_eq,hne,false_or] at this;have:=zF.1 this i hi;simp only [zu,vg,Zv,w6,decide_eq_false_iff_not] at this;exact ⟨this.1,fun hr=>by rcases this.2 with h|h;exact absurd hr h;exact h⟩
 intro d;induction d with
 |zero =>
  intro order listed vals w hd hn hlt hsz hl hg hR hC;have hlen:order.length=m:=(by omega);have hall:=(kD hn hlt).2 hlen;have e1:listed=wJ ops.size m:=by
   apply yr;intro j;by_cases hj:j<ops.size
   ·rw [hl j hj,ZW _ _ _ hj];congr 1
    have:(j∈order)↔j<m:=⟨hlt j,hall j⟩
    simp [this]
   ·rw [qw (by omega),qw (by rw [Z8];omega)]
  have hp:order.Perm (zk m):=(vu hn List.nodup_range).2 fun i=>by rw [zJ];exact ⟨hlt i,hall i⟩
  have e2:zZ ops vals order a0=zZ ops vals (zk m) a0:=by
   have ht:(zZ ops vals order a0).tmps=(zZ ops vals (zk m) a0).tmps:=by
    apply yr;intro t;exact vV vals t (fun i j=>hok.uniq i j t) _ _ _ fun i _=>by rw [zJ];exact ⟨hlt i,hall i⟩
   have hdf:(zZ ops vals order a0).defers=(zZ ops vals (zk m) a0).defers:=(by rw [yR,yR]);generalize zZ ops vals order a0=x at *;generalize zZ ops vals (zk m) a0=y at *;cases x;cases y;simp only at ht hdf;subst ht hdf;rfl
  rw [e1,e2,hlen];refine fin vals w (fun i hi=>hR i (hall i hi)) (hg.perm ((Yr ?_).append_right _));have e3:jZ Ss (wn m Ss++order)=(wn m Ss++order).filter fun i=>(wn m Ss++zk m).all fun k=>!(sAt Ss k).use.contains i:=by
   unfold jZ;congr 1
   funext i
   rw [Bool.eq_iff_iff,zF,zF];exact ⟨fun h k hk=>h k (by rcases zl.1 hk with hk|hk;simp [hk];simp [hall k (zJ.1 hk)]),fun h k hk=>h k (by rcases zl.1 hk with hk|hk;simp [hk];simp [hlt k hk])⟩
  rw [e3];exact (hp.append_left _).filter _
 |succ d ih =>
  intro order listed vals w hd hn hlt hsz hl hg hR hC;have hm:m<=ops.size:=hok.le;obtain ⟨f,hf⟩:∃ f,ops.size-order.length=f+1:=⟨ops.size-order.length-1,by omega⟩
  rw [hf];have hex:∃ i,i<m∧i ∉ order:=Classical.byContradiction fun h=>by
   have:∀ i,i<m->i∈order:=fun i hi=>Classical.byContradiction fun h'=>h ⟨i,hi,h'⟩
   have:=kC this;omega
  have hT:∀ j,listed.getD j false=true->j∈order:=fun j hj=>by
   by_cases hj2:j<ops.size
   ·rw [zD,hl j hj2] at hj;simpa using hj
   ·rw [zD,qw (by omega)] at hj;simp at hj
  have hF:∀ j,j<ops.size->listed.getD j true=false->j ∉ order:=fun j hj2 hj=>by
   rw [zD,hl j hj2] at hj;simpa using hj
  refine ⟨fun h0=>?_,fun j hj=>?_⟩
  ·exfalso;obtain ⟨i,hi,hno⟩:=hex;have:∀ i,i<m->i ∉ order->False:=fun i=>by
    induction i using yJ with
    |_ i ihi =>
     intro hi hno;obtain ⟨o,ho⟩:∃ o,ops[i]?=some o:=⟨ops[i],by simp⟩
     have hr:i∈Region.ready .any ops listed:=mem_ready.2 ⟨by rw [zD,hl i (by omega)];simp [hno],o,ho,fun e he hb=>by
      have hlt':=hok.back i o ho e he hb;by_cases hin:e.on∈order
      ·rw [zD,hl _ (by omega)];simp [hin]
      ·exact (ihi e.on hlt' (by omega) hin).elim⟩
     rw [h0] at hr;cases hr
   exact this i hi hno
  ·obtain ⟨hun,o,ho,hall⟩:=mem_ready.1 hj;have hjn:j<ops.size:=(yV.1 ho).1;have hjo:j ∉ order:=hF j hjn hun;have hjm:j<m:=by
    rcases yI j m with h|h
    ·exact h
    ·obtain ⟨i,hi,hno⟩:=hex;exact absurd (jE hC ops.size j i o ho (fun e he hb=>hT e.on (hall e he hb)) (hok.tail j o ho h i (by omega) (by simp))) hno
   have hreach:∀ i,x9 ops ops.size j i=true->i∈order:=fun i h=>jE hC ops.size j i o ho (fun e he hb=>hT e.on (hall e he hb)) h
   have hreach':∀ k∈order,∀ i,x9 ops ops.size k i=true->i∈order:=fun k hk i h=>by
    have hkm:=hlt k hk;obtain ⟨ok,hok'⟩:∃ ok,ops[k]?=some ok:=⟨ops[k],by simp⟩
    exact jE hC ops.size k i ok hok' (hC k hk ok hok') h
   have hdeps:∀ i∈qm ops j,i∈order:=fun i hi=>by
    obtain ⟨e,he,hb,hon⟩:=hok.deps j o ho i hi;exact hT i (by rw [← hon];exact hall e he hb)
   obtain ⟨hex1,hw1⟩:=jT hok ho vals order a0 hdeps (XK hC hjo);obtain ⟨hS1,hSD,hS2,hS3⟩:=hSp j hjm;have hin:∀ i,i∈(sAt Ss j).use∨i∈(sAt Ss j).rd->i∈wn m Ss++order:=fun i hi=>zl.2 ((hS1 i hi).imp id (hreach i))
   have hinD:∀ i∈(sAt Ss j).D,i∈order:=fun i hi=>hreach i (hSD i hi)
   have hjv:j ∉ wn m Ss++order:=fun h=>by
    rcases zl.1 h with h|h
    ·have:=hvo j h;omega
    ·exact hjo h
   have hvnd:(wn m Ss++order).Nodup:=yT.2 ⟨hvn,hn,fun a ha b hb e=>by subst e;have:=hvo a ha;have:=hlt a hb;omega⟩
   -- what is used and read is alive
   have hlive:∀ i∈(sAt Ss j).use++(sAt Ss j).rd,i∈jZ Ss (wn m Ss++order):=fun i hi=>by
    unfold jZ;refine qD.2 ⟨hin i (zl.1 hi),?_⟩;rw [zF];intro k hk;have hkj:k≠j:=fun e=>hjv (e ▸ hk)
    simp only [Zv,w6,decide_eq_false_iff_not];intro hki;rcases zl.1 hk with hk|hk
    ·rw [(hvu k hk).1] at hki;cases hki
    obtain ⟨_,_,_,h3⟩:=hSp k (hlt k hk);obtain ⟨h4,h5⟩:=h3 j hjm hkj i hki;rcases zl.1 hi with h|h
    ·exact h4 h
    ·exact hjo (hreach' k hk j (h5 h))
   have hlnd:(jZ Ss (wn m Ss++order)).Nodup:=hvnd.filter _;have hsplit:=perm_split hlnd hS2 hlive;have hg':St w0 M (w7 Ss vals (sAt Ss j).use++(w7 Ss vals (sAt Ss j).rd++(L++w7 Ss vals ((jZ Ss (wn m Ss++order)).filter fun i=>!((sAt Ss j).use++(sAt Ss j).rd).contains i)))) w:=by
    refine hg.perm ?_;have h1:=(Yr (Ss:=Ss) (v:=vals) hsplit).append_right L;rw [ZC,ZC] at h1;refine h1.trans ?_;rw [zQ,zQ];exact ((List.perm_append_comm).append_left _).append_left _
   have hs:=step j o hjm ho vals w _ (fun i hi=>hR i (hinD i hi)) hg';have hDj:∀ i∈(sAt Ss j).D,i≠j:=fun i hi e=>hjo (e ▸ hinD i hi)
   have next:∀ v w',(sAt Ss j).R v ((sAt Ss j).D.map vals)->St w0 M ((sAt Ss j).Y v ((sAt Ss j).D.map vals)++(w7 Ss vals (sAt Ss j).rd++(L++w7 Ss vals ((jZ Ss (wn m Ss++order)).filter fun i=>!((sAt Ss j).use++(sAt Ss j).rd).contains i)))) w' ->
     wpAny P .any ops Q f (listed.setIfInBounds j true) ((zZ ops vals order a0).put o.dst v) w':=fun v w' hRv hst=>by
    have hne:∀ i∈order,(fun i=>if i=j then v else vals i) i=vals i:=fun i hi=>by
     have:i≠j:=fun e=>hjo (e ▸ hi)
     simp [this]
    have hnv:∀ i∈wn m Ss++order,(fun i=>if i=j then v else vals i) i=vals i:=fun i hi=>by
     have:i≠j:=fun e=>hjv (e ▸ hi)
     simp [this]
    have hmapD:∀ k,k=j∨k∈order->(sAt Ss k).D.map (fun i=>if i=j then v else vals i)=(sAt Ss k).D.map vals:=fun k hk=>Ym fun i hi=>by
     rcases hk with rfl|hk
     ·exact hne i (hinD i hi)
     ·exact hne i (hreach' k hk i ((hSp k (hlt k hk)).2.1 i hi))
    have hp:(zZ ops vals order a0).put o.dst v=zZ ops (fun i=>if i=j then v else vals i) (order++[j]) a0:=by
     rw [k7,xW order a0 hne];simp [y8,ho]
    rw [hp];have hf':f=ops.size-(order++[j]).length:=(by simp;omega);rw [hf'];refine ih (order++[j]) _ _ w' (by simp;omega) (yT.2 ⟨hn,by simp,fun x hx y hy=>by simp at hy;rintro rfl;exact hjo (hy ▸ hx)⟩)
     (fun i hi=>?_) (by simpa using hsz) (fun i hi=>?_) ?_ (fun i hi=>?_) (fun k hk o' ho' e he hb=>?_)
    ·simp at hi;rcases hi with hi|hi
     ·exact hlt i hi
     ·omega
    ·by_cases hij:i=j
     ·subst hij;rw [jI];simp [show i<listed.size by omega]
     ·rw [zz (Ne.symm hij),hl i hi];simp [hij]
    ·-- the assertions that are alive
     have hjl:j∈jZ Ss (wn m Ss++(order++[j])):=by
      unfold jZ;refine qD.2 ⟨by simp,?_⟩;rw [zF];intro k hk;simp only [Zv,w6,decide_eq_false_iff_not];intro hki;rcases zl.1 hk with hk|hk
      ·rw [(hvu k hk).1] at hki;cases hki
      rcases zl.1 hk with hk|hk
      ·rcases (hSp k (hlt k hk)).1 j (.inl hki) with h|h
       ·have:=hvo j h;omega
       ·exact hjo (hreach' k hk j h)
      ·simp at hk;subst hk;exact hjv (hin k (.inl hki))
     have hnd2:(wn m Ss++(order++[j])).Nodup:=by
      rw [← zQ];exact yT.2 ⟨hvnd,by simp,fun x hx y hy=>by simp at hy;rintro rfl;exact hjv (hy ▸ hx)⟩
     have hperm:(jZ Ss (wn m Ss++(order++[j]))).Perm (j::((sAt Ss j).rd++(jZ Ss (wn m Ss++order)).filter fun i=>!((sAt Ss j).use++(sAt Ss j).rd).contains i)):=by
      have hrn:(sAt Ss j).rd.Nodup:=(yT.1 hS2).2.1;have hjr:j ∉ (sAt Ss j).rd:=fun h=>hjv (hin j (.inr h))
      have hnd3:(j::((sAt Ss j).rd++(jZ Ss (wn m Ss++order)).filter fun i=>!((sAt Ss j).use++(sAt Ss j).rd).contains i)).Nodup:=by
       refine List.nodup_cons.2 ⟨fun h=>?_,yT.2 ⟨hrn,hlnd.filter _,fun a ha b hb e=>?_⟩⟩
       ·rcases zl.1 h with h|h
        ·exact hjr h
        ·exact hjv (qD.1 (qD.1 h).1).1
       ·subst e;have:=(qD.1 hb).2;simp [ha] at this
      rw [vu (show (jZ Ss (wn m Ss++(order++[j]))).Nodup from hnd2.filter _) hnd3];intro i;constructor
      ·intro hi;obtain ⟨hi1,hi2⟩:=qD.1 hi;rw [zF] at hi2;by_cases hij:i=j
       ·simp [hij]
       ·have hio:i∈wn m Ss++order:=(by simpa [hij] using hi1);have hnu:i ∉ (sAt Ss j).use:=(by have:=hi2 j (by simp);simpa using this);have hil:i∈jZ Ss (wn m Ss++order):=qD.2 ⟨hio,by rw [zF];exact fun k hk=>hi2 k (by rcases zl.1 hk with h|h <;> simp [h])⟩;refine qT _ (zl.2 ?_);by_cases hir:i∈(sAt Ss j).rd
        ·exact .inl hir
        ·exact .inr (qD.2 ⟨hil,by simp [hnu,hir]⟩)
      ·intro hi;rcases zL.1 hi with rfl|hi
       ·exact hjl
       ·have hil:i∈jZ Ss (wn m Ss++order):=by
         rcases zl.1 hi with hi|hi
         ·exact hlive i (zl.2 (.inr hi))
         ·exact (qD.1 hi).1
        have hnu:i ∉ (sAt Ss j).use:=by
         rcases zl.1 hi with hi|hi
         ·intro hu;exact (yT.1 hS2).2.2 i hu i hi rfl
         ·have:=(qD.1 hi).2;intro hu;simp [hu] at this
        obtain ⟨hi1,hi2⟩:=qD.1 hil;rw [zF] at hi2;refine qD.2 ⟨by rcases zl.1 hi1 with h|h <;> simp [h],?_⟩;rw [zF];intro k hk;rw [← zQ] at hk;rcases zl.1 hk with hk|hk
        ·exact hi2 k hk
        ·simp at hk;subst hk;simpa using hnu
     refine hst.perm ?_;have h2:=((Yr (Ss:=Ss) (v:=fun i=>if i=j then v else vals i) hperm).append_right L).symm;refine wg.trans ?_ h2;have e0:w7 Ss (fun i=>if i=j then v else vals i) (j::((sAt Ss j).rd++(jZ Ss (wn m Ss++order)).filter fun i=>!((sAt Ss j).use++(sAt Ss j).rd).contains i)) =
       (sAt Ss j).Y v ((sAt Ss j).D.map vals)++(w7 Ss vals (sAt Ss j).rd++w7 Ss vals ((jZ Ss (wn m Ss++order)).filter fun i=>!((sAt Ss j).use++(sAt Ss j).rd).contains i)):=by
      have hj0:ZQ Ss (fun i=>if i=j then v else vals i) j=(sAt Ss j).Y v ((sAt Ss j).D.map vals):=by
       unfold ZQ;rw [hmapD j (.inl rfl)];simp
      have hrest:w7 Ss (fun i=>if i=j then v else vals i) ((sAt Ss j).rd++(jZ Ss (wn m Ss++order)).filter fun i=>!((sAt Ss j).use++(sAt Ss j).rd).contains i)=w7 Ss vals ((sAt Ss j).rd++(jZ Ss (wn m Ss++order)).filter fun i=>!((sAt Ss j).use++(sAt Ss j).rd).contains i) :=
       asOf_congr fun k hk=>by
        have hko:k∈wn m Ss++order:=by
         rcases zl.1 hk with hk|hk
         ·exact hin k (.inr hk)
         ·exact (qD.1 (qD.1 hk).1).1
        refine ⟨hnv k hko,fun i hi=>?_⟩;rcases zl.1 hko with hkv|hko
        ·rw [(hvu k hkv).2] at hi;cases hi
        ·exact hne i (hreach' k hko i ((hSp k (hlt k hko)).2.1 i hi))
      show ZQ Ss _ j++w7 Ss _ _=_
      rw [hj0,hrest,ZC]
     rw [e0,zQ,zQ];exact ((List.perm_append_comm).append_left _).append_left _
    ·simp at hi;have:kS Ss (fun i=>if i=j then v else vals i) i=if i=j then (sAt Ss j).R v ((sAt Ss j).D.map vals) else kS Ss vals i:=by
      by_cases hij:i=j
      ·subst hij;unfold kS;rw [hmapD i (.inl rfl)];simp
      ·rcases hi with hi|hi
       ·unfold kS;rw [hmapD i (.inr hi)];simp [hij]
       ·exact absurd hi hij
     rw [this];split
     ·exact hRv
     ·rename_i hij;rcases hi with hi|hi
      ·exact hR i hi
      ·exact absurd hi hij
    ·simp at hk ⊢;rcases hk with hk|hk
     ·exact .inl (hC k hk o' ho' e he hb)
     ·subst hk;obtain rfl:o'=o:=yk.inj (ho'.symm.trans ho);exact .inl (hT e.on (hall e he hb))
   unfold StStep at hs;unfold wpOp;simp only [ho];rw [hw1];split
   ·rename_i hw;rw [if_pos hw] at hs;refine .inl ?_;unfold jw at hs;unfold Oper.wp;rw [hex1];generalize (execOp (zZ ops vals (qm ops j) a0).eval o).run P w=r at hs;cases r with
    |ok n w' =>
     cases n <;> simp only [yM] at hs <;> simp only [Oper.upon]
     case value u=>exact next _ _ hs.1 hs.2
     case skip=>exact next _ _ hs.1 hs.2
     case enter f args=>exact hs.mono fun e w'' ⟨v,he,h1,h2⟩=>by subst he;exact next _ _ h1 h2
    |halt x w'=>simp only [yM] at hs
   ·rename_i hw;rw [if_neg hw] at hs;exact next _ _ hs.1 hs.2
theorem KZ {id:Nat} {Q:Exit->Act->World->Prop} {a:Act} {w w0:World} {M:List Nat} {L:List As} {l:List Oper} (m:Nat) (Ss:List OS) (H:St w0 M (w7 Ss (fun _=>undef) (jZ Ss (wn m Ss))++L) w) (hm:P.follows .mixedOrders=true)
  (hB:(rgB l.toArray m Ss&&Region.seqB .any l.toArray (l.length-m) m (wJ l.length m))=true)
  (step:∀ k o,k<m->l[k]?=some o->∀ vals w X,(∀ i∈(sAt Ss k).D,kS Ss vals i)->St w0 M (w7 Ss vals (sAt Ss k).use++(w7 Ss vals (sAt Ss k).rd++(L++X))) w ->
   StStep P l.toArray o (zZ l.toArray vals (qm l.toArray k) a) w fun v w'=>(sAt Ss k).R v ((sAt Ss k).D.map vals)∧St w0 M ((sAt Ss k).Y v ((sAt Ss k).D.map vals)++(w7 Ss vals (sAt Ss k).rd++(L++X))) w')
  (fin:∀ vals w,(∀ i,i<m->kS Ss vals i)->St w0 M (w7 Ss vals (jZ Ss (wn m Ss++zk m))++L) w->wpList P l.toArray Q (l.drop m) (zZ l.toArray vals (zk m) a) w):(Code.region id l.toArray true).wp P Q a w:=by
 simp only [zu] at hB;have hB':=hB.1;simp only [rgB,zu] at hB';have hok:jy l.toArray m []:=jV hB'.1.1.1;have hle:m<=l.length:=(by simpa using hok.le);refine wp_region_any hm ?_;have:=wpAny_rg (P:=P) (Q:=Q) hB.1 w0 M L a (fun k o hk ho=>step k o hk (by simpa using ho)) (fun vals w' hR hst=>by
  have:=wpAny_of_seq (P:=P) (md:=.any) (Q':=Q) (l.drop m) m (wJ l.length m) (zZ l.toArray vals (zk m) a) w' (fun j=>by simp [yh]) (by simpa using hB.2) (fin vals w' hR hst);simpa using this) m [] (J7 l.length false) (fun _=>undef) { w with drawn:=w.drawn+1 } (by simp) (by simp) (by simp) (by simp) (fun j hj=>by
   have hj':j<l.length:=(by simpa using hj);simp [hj']) (by simpa using H.drew) (by simp) (by simp)
 simpa [zZ] using this
def Yj (Ss:List OS) (vals:Nat->Value):List Nat->Prop
 |[]=>True
 |i::is=>kS Ss vals i∧Yj Ss vals is
theorem Yx {Ss:List OS} {vals:Nat->Value}:∀ {is:List Nat},(∀ i∈is,kS Ss vals i)->Yj Ss vals is
 |[],_=>trivial
 |i::is,h=>⟨h i (by simp),Yx fun j hj=>h j (by simp [hj])⟩
def Yq (P:Program) (ops:Array Oper) (w0:World) (M:List Nat) (L:List As) (a:Act) (Ss:List OS):List (List (Nat×Tmp))->List OS->List Oper->Prop
 |d::DS,s::Sl,o::rest=>(∀ vals w X,Yj Ss vals s.D->St w0 M (w7 Ss vals s.use++(w7 Ss vals s.rd++(L++X))) w ->
   StStep P ops o (yu d vals a) w fun v w'=>s.R v (s.D.map vals)∧St w0 M (s.Y v (s.D.map vals)++(w7 Ss vals s.rd++(L++X))) w')∧Yq P ops w0 M L a Ss DS Sl rest
 |_,_,[]=>True
 |_,_,_=>False
def rgsB (l:List Oper) (m:Nat) (Ss:List OS) (DS:List (List (Nat×Tmp))) (S:List (Nat×Tmp)):Bool :=
 rgB l.toArray m Ss&&Region.seqB .any l.toArray (l.length-m) m (wJ l.length m)&&Zj l.toArray S&&decide (S.map (·.1)=(zk m).filter fun i=>(y8 l.toArray i).isSome) &&
 DS.all (Zj l.toArray)&&decide (DS.map (fun d=>d.map (·.1))=(zk m).map (qm l.toArray))
theorem Xr {w0:World} {M:List Nat} {L:List As} {a:Act} {Ss:List OS}:∀ {DS:List (List (Nat×Tmp))} {Sl:List OS} {l:List Oper},Yq P ops w0 M L a Ss DS Sl l->∀ (k:Nat) (o:Oper),l[k]?=some o ->
  ∃ d s,DS[k]?=some d∧Sl[k]?=some s∧(∀ vals w X,Yj Ss vals s.D->St w0 M (w7 Ss vals s.use++(w7 Ss vals s.rd++(L++X))) w ->
   StStep P ops o (yu d vals a) w fun v w'=>s.R v (s.D.map vals)∧St w0 M (s.Y v (s.D.map vals)++(w7 Ss vals s.rd++(L++X))) w')
 |_,_,[],_,k,o,h=>by simp at h
 |[],_,_::_,hs,_,_,_=>by simp [Yq] at hs
 |_::_,[],_::_,hs,_,_,_=>by simp [Yq] at hs
 |d::DS,s::Sl,o'::rest,hs,0,o,h=>by
  simp at h;subst h;exact ⟨d,s,rfl,rfl,hs.1⟩
 |d::DS,s::Sl,o'::rest,hs,k+1,o,h=>by
  have:=Xr hs.2 k o (by simpa using h);simpa using this
theorem Je {id:Nat} {Q:Exit->Act->World->Prop} {a:Act} {w w0:World} {M:List Nat} {L:List As} {l:List Oper} (m:Nat) (Ss:List OS) (H:St w0 M (w7 Ss (fun _=>undef) (jZ Ss (wn m Ss))++L) w) (DS:List (List (Nat×Tmp))) (S:List (Nat×Tmp)) (hm:P.follows .mixedOrders=true)
  (hB:rgsB l m Ss DS S=true) (step:Yq P l.toArray w0 M L a Ss DS Ss (l.take m))
  (fin:∀ vals w,Yj Ss vals (zk m)->St w0 M (w7 Ss vals (jZ Ss (wn m Ss++zk m))++L) w->wpList P l.toArray Q (l.drop m) (yu S vals a) w):(Code.region id l.toArray true).wp P Q a w:=by
 simp only [rgsB,zu,decide_eq_true_eq] at hB;obtain ⟨⟨⟨⟨⟨h1,h2⟩,h3⟩,h4⟩,h5⟩,h6⟩:=hB;refine KZ m Ss H hm (by rw [h1,h2];rfl) (fun k o hk ho vals w X hD hst=>?_) (fun vals w hR hst=>?_)
 ·obtain ⟨d,s,hd,hs,hh⟩:=Xr step k o (by rw [wh,if_pos hk];exact ho);have hdep:d.map (·.1)=qm l.toArray k:=by
   have:=congrArg (·[k]?) h6;simp only [yf,hd,Qb] at this;rw [List.getElem?_range hk] at this;simpa using this
  have hslots:Zj l.toArray d=true:=zF.1 h5 d (zy hd);have hsk:sAt Ss k=s:=(by simp [sAt,List.getD,hs]);have:=hh vals w X (Yx (by rw [← hsk];exact hD)) (by rw [← hsk];exact hst);rw [kM vals d a hslots,hdep] at this;rw [hsk];exact this
 ·have:=fin vals w (Yx fun i hi=>hR i (zJ.1 hi)) hst;rwa [kM vals S a h3,h4,← vA] at this
theorem ka {id:Nat} {Q:Exit->Act->World->Prop} {a:Act} {w w0:World} {M:List Nat} {L0:List As} {l:List Oper} (H:St w0 M L0 w) (L:List As) (m:Nat) (Ss:List OS) (hL:w7 Ss (fun _=>undef) (jZ Ss (wn m Ss))++L=L0) (DS:List (List (Nat×Tmp))) (S:List (Nat×Tmp)) (lv:List Nat) (hm:P.follows .mixedOrders=true)
  (hB:rgsB l m Ss DS S=true) (hlv:jZ Ss (wn m Ss++zk m)=lv) (step:Yq P l.toArray w0 M L a Ss DS Ss (l.take m))
  (fin:∀ vals w,Yj Ss vals (zk m)->St w0 M (w7 Ss vals lv++L) w->wpList P l.toArray Q (l.drop m) (yu S vals a) w):(Code.region id l.toArray true).wp P Q a w:=by
 subst hL hlv;exact Je m Ss H DS S hm hB step fin
end
theorem sP {P Q:Prop} (p:P) (h:P->Q:=by
 intro h;simp only [w7,ZQ,sAt,List.getD_cons_succ,List.getD_cons_zero,zt,wW,qO,zv,zo] at h;exact h):Q:=h p
end
section
open Go.RowKit
def rowsT:List (Nat×Nat):=[(76,2),(78,6),(98,4),(106,4),(119,2),(122,2),(131,5),(138,2),(143,3),(146,13),(164,5),(179,2),(211,2),(214,3),(222,2),(226,2),(230,4),(234,2),(246,5),(250,12),(254,4),(265,8),(291,64)]
def cellsT:List Nat:=[2,3,4,5,9,12,20,21,22,25,26,29,33,34,42,54,55,56,59,60,63,73,74,117,120,136,140,141,152,159,175,176,193,195,209,219,231,235,236,244,248,268,274,275,299,303]
def zerosT:List (Nat×Value):=[(2,.int .i64 0),(3,.int .i64 0),(4,.bool false),(5,.int .u8 0),(9,.string ⟨#[]⟩),(12,.int .u64 0),(20,.nilIface),(21,.int .i32 0),(22,.slice none 0 0),(25,.pointer none),(26,.int .i64 0),(29,.slice none 0 0),(33,.nilIface),(34,.nilIface),(42,.slice none 0 0),(54,.slice none 0 0),(55,.slice none 0 0),(56,.slice none 0 0),(59,.pointer none),(60,.pointer none),(63,.slice none 0 0),(73,.int .i64 0),(74,.int .u64 0),(76,.agg #[.int .u64 0,.int .u64 0]),(78,.agg #[.int .i64 0,.int .i64 0,.int .i64 0,.int .i64 0,.int .u64 0,.int .u64 0]),(98,.agg #[.bool false,.int .i64 0,.int .i64 0,.int .i64 0]),(106,.agg #[.bool false,.int .i64 0,.int .i64 0,.string ⟨#[]⟩]),(117,.pointer none),(119,.agg #[.pointer none,.pointer none]),(120,.slice none 0 0),(122,.agg #[.slice none 0 0,.slice none 0 0]),(131,.agg #[.int .i64 0,.int .u8 0,.int .i64 0,.int .i64 0,.int .i64 0]),(136,.map none),(138,.agg #[.pointer none,.map none]),(140,.slice none 0 0),(141,.map none),(143,.agg #[.int .i64 0,.slice none 0 0,.map none]),(146,.agg #[.int .i64 0,.int .u8 0,.int .i64 0,.int .i64 0,.int .i64 0,.int .i64 0,.int .i64 0,.int .i64 0,.int .i64 0,.int .u64 0,.int .u64 0,.int .i64 0,.bool false]),(152,.map none),(159,.slice none 0 0),(164,.agg #[.bool false,.int .i64 0,.int .i64 0,.int .i64 0,.slice none 0 0]),(175,.pointer none),(176,.slice none 0 0),(179,.agg #[.int .i64 0,.int .i64 0]),(193,.pointer none),(195,.int .u64 0),(209,.slice none 0 0),(211,.agg #[.pointer none,.slice none 0 0]),(214,.agg #[.int .u64 0,.int .i64 0,.bool false]),(219,.slice none 0 0),(222,.agg #[.int .i64 0,.int .i64 0]),(226,.agg #[.int .i64 0,.int .i64 0]),(230,.agg #[.int .i64 0,.int .i64 0,.int .i64 0,.int .i64 0]),(231,.slice none 0 0),(234,.agg #[.int .i64 0,.int .i64 0]),(235,.slice none 0 0),(236,.pointer none),(244,.slice none 0 0),(246,.agg #[.pointer none,.bool false,.slice none 0 0,.int .i64 0,.int .u64 0]),(248,.slice none 0 0),(250,.agg #[.pointer none,.pointer none,.bool false,.slice none 0 0,.int .i64 0,.int .u64 0,.pointer none,.bool false,.slice none 0 0,.int .i64 0,.int .u64 0,.slice none 0 0]),(254,.agg #[.int .i64 0,.int .i64 0,.int .u64 0,.int .i64 0]),(265,.agg #[.int .i64 0,.int .i64 0,.int .u8 0,.int .i64 0,.int .i64 0,.int .i64 0,.int .i64 0,.int .i64 0]),(268,.pointer none),(274,.pointer none),(275,.pointer none),(291,.agg #[.int .u8 0,.int .u8 0,.int .u8 0,.int .u8 0,.int .u8 0,.int .u8 0,.int .u8 0,.int .u8 0,.int .u8 0,.int .u8 0,.int .u8 0,.int .u8 0,.int .u8 0,.int .u8 0,.int .u8 0,.int .u8 0,.int .u8 0,.int .u8 0,.int .u8 0,.int .u8 0,.int .u8 0,.int .u8 0,.int .u8 0,.int .u8 0,.int .u8 0,.int .u8 0,.int .u8 0,.int .u8 0,.int .u8 0,.int .u8 0,.int .u8 0,.int .u8 0,.int .u8 0,.int .u8 0,.int .u8 0,.int .u8 0,.int .u8 0,.int .u8 0,.int .u8 0,.int .u8 0,.int .u8 0,.int .u8 0,.int .u8 0,.int .u8 0,.int .u8 0,.int .u8 0,.int .u8 0,.int .u8 0,.int .u8 0,.int .u8 0,.int .u8 0,.int .u8 0,.int .u8 0,.int .u8 0,.int .u8 0,.int .u8 0,.int .u8 0,.int .u8 0,.int .u8 0,.int .u8 0,.int .u8 0,.int .u8 0,.int .u8 0,.int .u8 0]),(299,.int .u32 0),(303,.pointer none)]
theorem VQ:(rowsT.all fun p=>jt zb p.1 p.2)=true:=by kernel_rfl
theorem cellsT_ok:(cellsT.all fun p=>xj zb p)=true:=by kernel_rfl
theorem z_2 (w:World):(zeroValue 2).run zb w=.ok (.int .i64 0) w:=by kernel_rfl
theorem z_3 (w:World):(zeroValue 3).run zb w=.ok (.int .i64 0) w:=by kernel_rfl
theorem z_4 (w:World):(zeroValue 4).run zb w=.ok (.bool false) w:=by kernel_rfl
theorem z_5 (w:World):(zeroValue 5).run zb w=.ok (.int .u8 0) w:=by kernel_rfl
theorem z_9 (w:World):(zeroValue 9).run zb w=.ok (.string ⟨#[]⟩) w:=by kernel_rfl
theorem z_12 (w:World):(zeroValue 12).run zb w=.ok (.int .u64 0) w:=by kernel_rfl
theorem z_20 (w:World):(zeroValue 20).run zb w=.ok (.nilIface) w:=by kernel_rfl
theorem z_21 (w:World):(zeroValue 21).run zb w=.ok (.int .i32 0) w:=by kernel_rfl
theorem z_22 (w:World):(zeroValue 22).run zb w=.ok (.slice none 0 0) w:=by kernel_rfl
theorem z_25 (w:World):(zeroValue 25).run zb w=.ok (.pointer none) w:=by kernel_rfl
theorem z_26 (w:World):(zeroValue 26).run zb w=.ok (.int .i64 0) w:=by kernel_rfl
theorem z_29 (w:World):(zeroValue 29).run zb w=.ok (.slice none 0 0) w:=by kernel_rfl
theorem z_33 (w:World):(zeroValue 33).run zb w=.ok (.nilIface) w:=by kernel_rfl
theorem z_34 (w:World):(zeroValue 34).run zb w=.ok (.nilIface) w:=by kernel_rfl
theorem z_42 (w:World):(zeroValue 42).run zb w=.ok (.slice none 0 0) w:=by kernel_rfl
theorem z_54 (w:World):(zeroValue 54).run zb w=.ok (.slice none 0 0) w:=by kernel_rfl
theorem z_55 (w:World):(zeroValue 55).run zb w=.ok (.slice none 0 0) w:=by kernel_rfl
theorem z_56 (w:World):(zeroValue 56).run zb w=.ok (.slice none 0 0) w:=by kernel_rfl
theorem z_59 (w:World):(zeroValue 59).run zb w=.ok (.pointer none) w:=by kernel_rfl
theorem z_60 (w:World):(zeroValue 60).run zb w=.ok (.pointer none) w:=by kernel_rfl
theorem z_63 (w:World):(zeroValue 63).run zb w=.ok (.slice none 0 0) w:=by kernel_rfl
theorem z_73 (w:World):(zeroValue 73).run zb w=.ok (.int .i64 0) w:=by kernel_rfl
theorem z_74 (w:World):(zeroValue 74).run zb w=.ok (.int .u64 0) w:=by kernel_rfl
theorem z_76 (w:World):(zeroValue 76).run zb w=.ok (.agg #[.int .u64 0,.int .u64 0]) w:=by kernel_rfl
theorem z_78 (w:World):(zeroValue 78).run zb w=.ok (.agg #[.int .i64 0,.int .i64 0,.int .i64 0,.int .i64 0,.int .u64 0,.int .u64 0]) w:=by kernel_rfl
theorem z_98 (w:World):(zeroValue 98).run zb w=.ok (.agg #[.bool false,.int .i64 0,.int .i64 0,.int .i64 0]) w:=by kernel_rfl
theorem z_106 (w:World):(zeroValue 106).run zb w=.ok (.agg #[.bool false,.int .i64 0,.int .i64 0,.string ⟨#[]⟩]) w:=by kernel_rfl
theorem z_117 (w:World):(zeroValue 117).run zb w=.ok (.pointer none) w:=by kernel_rfl
theorem z_119 (w:World):(zeroValue 119).run zb w=.ok (.agg #[.pointer none,.pointer none]) w:=by kernel_rfl
theorem z_120 (w:World):(zeroValue 120).run zb w=.ok (.slice none 0 0) w:=by kernel_rfl
theorem z_122 (w:World):(zeroValue 122).run zb w=.ok (.agg #[.slice none 0 0,.slice none 0 0]) w:=by kernel_rfl
theorem z_131 (w:World):(zeroValue 131).run zb w=.ok (.agg #[.int .i64 0,.int .u8 0,.int .i64 0,.int .i64 0,.int .i64 0]) w:=by kernel_rfl
theorem z_136 (w:World):(zeroValue 136).run zb w=.ok (.map none) w:=by kernel_rfl
theorem z_138 (w:World):(zeroValue 138).run zb w=.ok (.agg #[.pointer none,.map none]) w:=by kernel_rfl
theorem z_140 (w:World):(zeroValue 140).run zb w=.ok (.slice none 0 0) w:=by kernel_rfl
theorem z_141 (w:World):(zeroValue 141).run zb w=.ok (.map none) w:=by kernel_rfl
theorem z_143 (w:World):(zeroValue 143).run zb w=.ok (.agg #[.int .i64 0,.slice none 0 0,.map none]) w:=by kernel_rfl
theorem z_146 (w:World):(zeroValue 146).run zb w=.ok (.agg #[.int .i64 0,.int .u8 0,.int .i64 0,.int .i64 0,.int .i64 0,.int .i64 0,.int .i64 0,.int .i64 0,.int .i64 0,.int .u64 0,.int .u64 0,.int .i64 0,.bool false]) w:=by kernel_rfl
theorem z_152 (w:World):(zeroValue 152).run zb w=.ok (.map none) w:=by kernel_rfl
theorem z_159 (w:World):(zeroValue 159).run zb w=.ok (.slice none 0 0) w:=by kernel_rfl
theorem z_164 (w:World):(zeroValue 164).run zb w=.ok (.agg #[.bool false,.int .i64 0,.int .i64 0,.int .i64 0,.slice none 0 0]) w:=by kernel_rfl
theorem z_175 (w:World):(zeroValue 175).run zb w=.ok (.pointer none) w:=by kernel_rfl
theorem z_176 (w:World):(zeroValue 176).run zb w=.ok (.slice none 0 0) w:=by kernel_rfl
theorem z_179 (w:World):(zeroValue 179).run zb w=.ok (.agg #[.int .i64 0,.int .i64 0]) w:=by kernel_rfl
theorem z_193 (w:World):(zeroValue 193).run zb w=.ok (.pointer none) w:=by kernel_rfl
theorem z_195 (w:World):(zeroValue 195).run zb w=.ok (.int .u64 0) w:=by kernel_rfl
theorem z_209 (w:World):(zeroValue 209).run zb w=.ok (.slice none 0 0) w:=by kernel_rfl
theorem z_211 (w:World):(zeroValue 211).run zb w=.ok (.agg #[.pointer none,.slice none 0 0]) w:=by kernel_rfl
theorem z_214 (w:World):(zeroValue 214).run zb w=.ok (.agg #[.int .u64 0,.int .i64 0,.bool false]) w:=by kernel_rfl
theorem z_219 (w:World):(zeroValue 219).run zb w=.ok (.slice none 0 0) w:=by kernel_rfl
theorem z_222 (w:World):(zeroValue 222).run zb w=.ok (.agg #[.int .i64 0,.int .i64 0]) w:=by kernel_rfl
theorem z_226 (w:World):(zeroValue 226).run zb w=.ok (.agg #[.int .i64 0,.int .i64 0]) w:=by kernel_rfl
theorem z_230 (w:World):(zeroValue 230).run zb w=.ok (.agg #[.int .i64 0,.int .i64 0,.int .i64 0,.int .i64 0]) w:=by kernel_rfl
theorem z_231 (w:World):(zeroValue 231).run zb w=.ok (.slice none 0 0) w:=by kernel_rfl
theorem z_234 (w:World):(zeroValue 234).run zb w=.ok (.agg #[.int .i64 0,.int .i64 0]) w:=by kernel_rfl
theorem z_235 (w:World):(zeroValue 235).run zb w=.ok (.slice none 0 0) w:=by kernel_rfl
theorem z_236 (w:World):(zeroValue 236).run zb w=.ok (.pointer none) w:=by kernel_rfl
theorem z_244 (w:World):(zeroValue 244).run zb w=.ok (.slice none 0 0) w:=by kernel_rfl
theorem z_246 (w:World):(zeroValue 246).run zb w=.ok (.agg #[.pointer none,.bool false,.slice none 0 0,.int .i64 0,.int .u64 0]) w:=by kernel_rfl
theorem z_248 (w:World):(zeroValue 248).run zb w=.ok (.slice none 0 0) w:=by kernel_rfl
theorem z_250 (w:World):(zeroValue 250).run zb w=.ok (.agg #[.pointer none,.pointer none,.bool false,.slice none 0 0,.int .i64 0,.int .u64 0,.pointer none,.bool false,.slice none 0 0,.int .i64 0,.int .u64 0,.slice none 0 0]) w:=by kernel_rfl
theorem z_254 (w:World):(zeroValue 254).run zb w=.ok (.agg #[.int .i64 0,.int .i64 0,.int .u64 0,.int .i64 0]) w:=by kernel_rfl
theorem z_265 (w:World):(zeroValue 265).run zb w=.ok (.agg #[.int .i64 0,.int .i64 0,.int .u8 0,.int .i64 0,.int .i64 0,.int .i64 0,.int .i64 0,.int .i64 0]) w:=by kernel_rfl
theorem z_268 (w:World):(zeroValue 268).run zb w=.ok (.pointer none) w:=by kernel_rfl
theorem z_274 (w:World):(zeroValue 274).run zb w=.ok (.pointer none) w:=by kernel_rfl
theorem z_275 (w:World):(zeroValue 275).run zb w=.ok (.pointer none) w:=by kernel_rfl
theorem z_291 (w:World):(zeroValue 291).run zb w=.ok (.agg #[.int .u8 0,.int .u8 0,.int .u8 0,.int .u8 0,.int .u8 0,.int .u8 0,.int .u8 0,.int .u8 0,.int .u8 0,.int .u8 0,.int .u8 0,.int .u8 0,.int .u8 0,.int .u8 0,.int .u8 0,.int .u8 0,.int .u8 0,.int .u8 0,.int .u8 0,.int .u8 0,.int .u8 0,.int .u8 0,.int .u8 0,.int .u8 0,.int .u8 0,.int .u8 0,.int .u8 0,.int .u8 0,.int .u8 0,.int .u8 0,.int .u8 0,.int .u8 0,.int .u8 0,.int .u8 0,.int .u8 0,.int .u8 0,.int .u8 0,.int .u8 0,.int .u8 0,.int .u8 0,.int .u8 0,.int .u8 0,.int .u8 0,.int .u8 0,.int .u8 0,.int .u8 0,.int .u8 0,.int .u8 0,.int .u8 0,.int .u8 0,.int .u8 0,.int .u8 0,.int .u8 0,.int .u8 0,.int .u8 0,.int .u8 0,.int .u8 0,.int .u8 0,.int .u8 0,.int .u8 0,.int .u8 0,.int .u8 0,.int .u8 0,.int .u8 0]) w:=by kernel_rfl
theorem z_299 (w:World):(zeroValue 299).run zb w=.ok (.int .u32 0) w:=by kernel_rfl
theorem z_303 (w:World):(zeroValue 303).run zb w=.ok (.pointer none) w:=by kernel_rfl
theorem zerosT_ok:∀ p∈zerosT,∀ w:World,(zeroValue p.1).run zb w=.ok p.2 w:=by
 simp only [zerosT,zL,List.not_mem_nil,or_false,forall_eq_or_imp,forall_eq];exact ⟨z_2,z_3,z_4,z_5,z_9,z_12,z_20,z_21,z_22,z_25,z_26,z_29,z_33,z_34,z_42,z_54,z_55,z_56,z_59,z_60,z_63,z_73,z_74,z_76,z_78,z_98,z_106,z_117,z_119,z_120,z_122,z_131,z_136,z_138,z_140,z_141,z_143,z_146,z_152,z_159,z_164,z_175,z_176,z_179,z_193,z_195,z_209,z_211,z_214,z_219,z_222,z_226,z_230,z_231,z_234,z_235,z_236,z_244,z_246,z_248,z_250,z_254,z_265,z_268,z_274,z_275,z_291,z_299,z_303⟩
def fieldsT:List ((Nat×Nat)×(Nat×Nat)):=[((76,0),(74,0)),((76,1),(74,1)),((78,0),(3,0)),((78,1),(3,1)),((78,2),(3,2)),((78,3),(3,3)),((78,4),(76,4)),((98,0),(4,0)),((98,1),(3,1)),((98,2),(3,2)),((98,3),(26,3)),((106,0),(4,0)),((106,1),(3,1)),((106,2),(3,2)),((106,3),(9,3)),((119,0),(59,0)),((119,1),(117,1)),((122,0),(63,0)),((122,1),(120,1)),((131,0),(3,0)),((131,1),(5,1)),((131,2),(26,2)),((131,3),(26,3)),((131,4),(3,4)),((138,0),(25,0)),((138,1),(136,1)),((143,0),(3,0)),((143,1),(140,1)),((143,2),(141,2)),((146,0),(131,0)),((146,1),(78,5)),((146,2),(3,11)),((146,3),(4,12)),((164,0),(98,0)),((164,1),(54,4)),((179,0),(26,0)),((179,1),(3,1)),((211,0),(59,0)),((211,1),(209,1)),((214,0),(74,0)),((214,1),(3,1)),((214,2),(4,2)),((222,0),(3,0)),((222,1),(3,1)),((230,0),(26,0)),((230,1),(3,1)),((230,2),(3,2)),((230,3),(3,3)),((234,0),(26,0)),((234,1),(3,1)),((246,0),(25,0)),((246,1),(4,1)),((246,2),(244,2)),((246,3),(26,3)),((246,4),(74,4)),((250,0),(25,0)),((250,1),(246,1)),((250,2),(246,6)),((250,3),(248,11)),((254,0),(26,0)),((254,1),(26,1)),((254,2),(74,2)),((254,3),(3,3)),((265,0),(26,0)),((265,1),(131,1)),((265,2),(3,6)),((265,3),(3,7))]
def fldOf (P:Program) (t f:Nat):Option (Nat×Nat):=match P.underlying t with|some (.struct fs)=>(fs[f]?).map fun x=>(x.type,x.offset)|_=>none
theorem fieldsT_ok:(fieldsT.all fun p=>fldOf zb p.1.1 p.1.2==some p.2)=true:=by kernel_rfl
def jW (t n:Nat):Bool:=rowsT.any fun p=>Zz p.1 t&&Zz p.2 n
def je (t:Nat):Bool:=cellsT.any fun p=>Zz p t
def Wv {α:Type} (t:Nat):List (Nat×α)->Option α
 |[]=>none
 |p::l=>bif Zz p.1 t then some p.2 else Wv t l
def szO (t:Nat):Option Nat:=Wv t rowsT
def zO (t:Nat):Option Value:=Wv t zerosT
theorem vR {α:Type} {t:Nat} {x:α}:∀ {l:List (Nat×α)},Wv t l=some x->(t,x)∈l
 |[],h=>by cases h
 |p::l,h=>by
  unfold Wv at h;cases hb:Zz p.1 t with
  |true =>
   rw [hb] at h;simp only [cond_true,yk.injEq] at h;have:=xL hb;subst this h;exact zN
  |false =>
   rw [hb] at h;exact qT _ (vR h)
theorem xN {t n:Nat} (h:jW t n=true):jt zb t n=true:=by
 obtain ⟨p,hp,hq⟩:=List.any_eq_true.1 h;have:=zF.1 VQ p hp;simp only [zu] at hq;obtain rfl:=xL hq.1;obtain rfl:=xL hq.2;exact this
theorem KT {t n:Nat} (h:szO t=some n):jt zb t n=true:=by
 have:=zF.1 VQ _ (vR h);exact this
theorem qB {t:Nat} (h:je t=true):xj zb t=true:=by
 obtain ⟨p,hp,hq⟩:=List.any_eq_true.1 h;have:=zF.1 cellsT_ok p hp;obtain rfl:=xL hq;exact this
theorem K8 {t:Nat} {z:Value} (h:zO t=some z) (w:World):(zeroValue t).run zb w=.ok z w:=zerosT_ok _ (vR h) w
theorem Zh {P:Program} {t n:Nat} (h:jt P t n=true):(P.info? t).map (·.size)=some n:=by
 unfold jt at h;simp only [zu,beq_iff_eq] at h;exact h.2
theorem qL {P:Program} {t:Nat} (h:xj P t=true):(P.info? t).map (·.size)=some 1:=by
 unfold xj at h;simp only [zu,beq_iff_eq] at h;exact h.2
def Xj:List Value->Bool
 |[]=>true
 |v::l=>v.oneCell'&&Xj l
theorem Y2 {cs:Array Value} (h:Xj cs.toList=true):cs.all (·.oneCell')=true:=by
 have:∀ l:List Value,Xj l=true->l.all (·.oneCell')=true:=fun l=>by
  induction l with
  |nil=>intro _;rfl
  |cons v l ih=>intro h;simp only [Xj,zu] at h;simp only [List.all_cons,zu];exact ⟨h.1,ih h.2⟩
 rw [← Array.all_toList];exact this _ h
def lookF (t f:Nat):List ((Nat×Nat)×(Nat×Nat))->Option (Nat×Nat)
 |[]=>none
 |p::l=>bif Zz p.1.1 t&&Zz p.1.2 f then some p.2 else lookF t f l
def fldO (t f:Nat):Option (Nat×Nat):=lookF t f fieldsT
theorem JB {t f:Nat} {x:Nat×Nat}:∀ {l:List ((Nat×Nat)×(Nat×Nat))},lookF t f l=some x->((t,f),x)∈l
 |[],h=>by cases h
 |p::l,h=>by
  unfold lookF at h;cases hb:(Zz p.1.1 t&&Zz p.1.2 f) with
  |true =>
   rw [hb] at h;simp only [cond_true,yk.injEq] at h;simp only [zu] at hb;obtain ⟨⟨p1,p2⟩,p3⟩:=p;have e1:=xL hb.1;have e2:=xL hb.2;simp only at e1 e2 h;subst e1 e2 h;exact zN
  |false =>
   rw [hb] at h;exact qT _ (JB h)
theorem fldO_ok {t f ft off:Nat} (h:fldO t f=some (ft,off)):fldOf zb t f=some (ft,off):=by
 have:=zF.1 fieldsT_ok _ (JB h);simpa using this
def AtField (P:Program) (ops:Array Oper) (Q:Exit->Act->World->Prop) (o:Oper) (_:TypeId) (_:Operand) (_:Nat) (rest:List Oper) (a:Act) (w:World):Prop:=wpList P ops Q (o::rest) a w
theorem isField {P:Program} {ops:Array Oper} {Q:Exit->Act->World->Prop} {rest:List Oper} {a:Act} {w:World} {dst:Option Tmp} {ty0:TypeId} {pos:String} {aft:Array Edge} {gd:Option (Nat×Bool)} {t:TypeId} {x:Operand} {f:Nat} (h:AtField P ops Q ⟨dst,.field t x f,ty0,pos,aft,gd⟩ t x f rest a w):wpList P ops Q (⟨dst,.field t x f,ty0,pos,aft,gd⟩::rest) a w:=h
theorem JT {P:Program} {t f ft off:Nat} (hf:fldOf P t f=some (ft,off)) (cs:Array Value) (w:World):(Instr.field t (.agg cs) f).run P w=(part ft cs off).run P w:=by
 unfold fldOf at hf;cases hu:P.underlying t with
 |none=>simp [hu] at hf
 |some d =>
  cases d <;> simp [hu] at hf
  rename_i fs;obtain ⟨x,h1,h2,h3⟩:=hf;simp [Instr.field,run_underlying hu,h1,h2,h3,Result.andThen,asAgg]
theorem Y9 {P:Program} {ft n off:Nat} (hr:jt P ft n=true) {cs:Array Value} {vs:List Value} (hl:Ya cs.toList off n=some vs) (w:World):(part ft cs off).run P w=.ok (.agg vs.toArray) w:=by
 unfold jt at hr;simp only [zu,beq_iff_eq] at hr;cases hu:P.underlying ft with
 |none=>simp [hu] at hr
 |some d =>
  have hagg:(isAgg ft).run P w=.ok true w:=by
   unfold isAgg;rw [Sem.run_bind,run_underlying hu w];simp only [hu] at hr;cases d <;> simp_all
  cases hq:P.info? ft with
  |none=>simp [hq] at hr
  |some i =>
   have hs:i.size=n:=(by simpa [hq] using hr.2);have e:cs.extract off (off+n)=vs.toArray:=by
    apply Array.ext';rw [← (vB _ _ _ _ hl).1];simp [List.extract_eq_take_drop]
   simp [part,Sem.run_bind,hagg,sizeOf,typeInfo,hq,hs,e]
theorem vH {P:Program} {ft off:Nat} (hr:xj P ft=true) {cs:Array Value} {v:Value} (hl:nth cs.toList off=some v) (w:World):(part ft cs off).run P w=.ok v w:=by
 unfold xj at hr;simp only [zu,beq_iff_eq] at hr;cases hu:P.underlying ft with
 |none=>simp [hu] at hr
 |some d =>
  have hagg:(isAgg ft).run P w=.ok false w:=by
   unfold isAgg;rw [Sem.run_bind,run_underlying hu w];simp only [hu] at hr;cases d <;> simp_all
  have e:cs[off]?=some v:=(by rw [YF] at hl;simpa using hl);simp [part,Sem.run_bind,hagg,e]
section
variable {ops:Array Oper} {Q:Exit->Act->World->Prop} {rest:List Oper} {a:Act} {w w0 w1:World} {M:List Nat} {L L' R:List As} {o1:Oper} {ty:TypeId} {x y:Operand}
theorem AtLoad.wholeT (hw:Region.wanted o1 (yielded ops a.tmps)=true) (ho:o1.op=.load ty x) {g:Nat} (hx:a.eval x=.pointer (some ⟨g,0,none⟩)) {cs:Array Value} {t:TypeId} {fr:Nat×Nat} (hg:w.heap[g]?=some (.cells cs t fr))
  (hr:jW ty cs.size=true) (h:wpList zb ops Q rest (a.put o1.dst (.agg cs)) w):AtLoad zb ops Q o1 ty x rest a w:=AtLoad.whole hw ho hx hg (xN hr) h
theorem AtLoad.rowT (hw:Region.wanted o1 (yielded ops a.tmps)=true) (ho:o1.op=.load ty x) {n g o:Nat} (hs:szO ty=some n) (hx:a.eval x=.pointer (some ⟨g,o,none⟩)) {cs:Array Value} {t:TypeId} {fr:Nat×Nat} (hg:w.heap[g]?=some (.cells cs t fr))
  {vs:List Value} (hl:Ya cs.toList o n=some vs) (h:wpList zb ops Q rest (a.put o1.dst (.agg vs.toArray)) w):AtLoad zb ops Q o1 ty x rest a w:=AtLoad.row hw ho n hx hg (KT hs) (vB _ _ _ _ hl).1 (vB _ _ _ _ hl).2 h
theorem AtLoad.cellT (hw:Region.wanted o1 (yielded ops a.tmps)=true) (ho:o1.op=.load ty x) {g o:Nat} (hx:a.eval x=.pointer (some ⟨g,o,none⟩)) {cs:Array Value} {t:TypeId} {fr:Nat×Nat} (hg:w.heap[g]?=some (.cells cs t fr))
  (hr:je ty=true) {v:Value} (hv:nth cs.toList o=some v) (h:wpList zb ops Q rest (a.put o1.dst v) w):AtLoad zb ops Q o1 ty x rest a w:=AtLoad.cell hw ho hx hg (qB hr) hv h
theorem AtLoad.rngT (hw:Region.wanted o1 (yielded ops a.tmps)=true) (ho:o1.op=.load ty x) {g o:Nat} (hx:a.eval x=.pointer (some ⟨g,o,none⟩)) {vs:List Value} (hc:w.rangeAt g o vs)
  (hr:jW ty vs.length=true) (h:wpList zb ops Q rest (a.put o1.dst (.agg vs.toArray)) w):AtLoad zb ops Q o1 ty x rest a w:=AtLoad.rng hw ho hx hc (xN hr) h
theorem AtLoad.segT (hw:Region.wanted o1 (yielded ops a.tmps)=true) (ho:o1.op=.load ty x) {n:Nat} (hs:szO ty=some n) {g b:Nat} {o:Nat} (hx:a.eval x=.pointer (some ⟨g,b+o,none⟩)) {es:List Value} (hc:w.rangeAt g b es)
  {vs:List Value} (hl:Ya es o n=some vs) (h:wpList zb ops Q rest (a.put o1.dst (.agg vs.toArray)) w):AtLoad zb ops Q o1 ty x rest a w:=by
 obtain ⟨h1,h2⟩:=vB _ _ _ _ hl;refine AtLoad.rng hw ho hx (vs:=vs) (fun j u hj=>?_) (by rw [h2];exact KT hs) h;rw [wA];refine hc (o+j) u ?_;rw [← h1,wh] at hj;split at hj
 ·rwa [yh] at hj
 ·cases hj
theorem AtField.rowT {f:Nat} (hw:Region.wanted o1 (yielded ops a.tmps)=true) (ho:o1.op=.field ty x f) {cs:Array Value} (hx:a.eval x=.agg cs) {ft off:Nat} (hf:fldO ty f=some (ft,off)) {n:Nat} (hs:szO ft=some n) {vs:List Value} (hl:Ya cs.toList off n=some vs)
  (h:wpList zb ops Q rest (a.put o1.dst (.agg vs.toArray)) w):AtField zb ops Q o1 ty x f rest a w :=
 wpList_step fun _ hK=>by
  rw [if_pos hw];unfold Oper.wp execOp;simp only [ho,hx,Sem.run_bind,JT (fldO_ok hf),Y9 (KT hs) hl,Result.andThen_ok];exact hK _ _ h
theorem AtField.cellT {f:Nat} (hw:Region.wanted o1 (yielded ops a.tmps)=true) (ho:o1.op=.field ty x f) {cs:Array Value} (hx:a.eval x=.agg cs) {ft off:Nat} (hf:fldO ty f=some (ft,off)) (hs:je ft=true) {v:Value} (hl:nth cs.toList off=some v)
  (h:wpList zb ops Q rest (a.put o1.dst v) w):AtField zb ops Q o1 ty x f rest a w :=
 wpList_step fun _ hK=>by
  rw [if_pos hw];unfold Oper.wp execOp;simp only [ho,hx,Sem.run_bind,JT (fldO_ok hf),vH (qB hs) hl,Result.andThen_ok];exact hK _ _ h
theorem AtAlloc.goT (H:St w0 M L w) (hw:Region.wanted o1 (yielded ops a.tmps)=true) (ho:o1.op=.alloc ty) {z:Value} (hz:zO ty=some z) {cs:Array Value} (hc:wZ z=some cs)
  (h:∀ b w',St w0 M (blk b (.cells cs ty)::L) w'->wpList zb ops Q rest (a.put o1.dst (.pointer (some ⟨b,0,none⟩))) w'):AtAlloc zb ops Q o1 ty rest a w:=AtAlloc.go H hw ho (K8 hz) hc h
theorem AtStore.wholeT (H:St w0 M L w) (hw:Region.wanted o1 (yielded ops a.tmps)=true) (ho:o1.op=.store ty x y) {g:Nat} (hx:a.eval x=.pointer (some ⟨g,0,none⟩)) {cs':Array Value} (hy:yU a y=some (.agg cs'))
  (hr:jW ty cs'.size=true) (h1:Xj cs'.toList=true) {cs:Array Value} {t:TypeId} (hp:Upd L (blk g (.cells cs t)) (blk g (.cells cs' t)) L') (hl:cs.size=cs'.size)
  (h:∀ w',St w0 M L' w'->wpList zb ops Q rest (a.put o1.dst undef) w'):AtStore zb ops Q o1 ty x y rest a w:=AtStore.whole H hw ho hx hy (Zh (xN hr)) (Y2 h1) hp hl h
theorem AtStore.cellT (H:St w0 M L w) (hw:Region.wanted o1 (yielded ops a.tmps)=true) (ho:o1.op=.store ty x y) {g o:Nat} (hx:a.eval x=.pointer (some ⟨g,o,none⟩)) {v:Value} (hr:je ty=true) (hy:yU a y=some v)
  (h1:v.oneCell'=true) {cs:Array Value} {cs':List Value} {t:TypeId} (hp:Upd L (blk g (.cells cs t)) (blk g (.cells cs'.toArray t)) L') (hl:Xw cs.toList o [v]=some cs')
  (h:∀ w',St w0 M L' w'->wpList zb ops Q rest (a.put o1.dst undef) w'):AtStore zb ops Q o1 ty x y rest a w:=by
 have hc:wZ v=some #[v]:=(by cases v <;> first|rfl|cases h1);have hl':=Y6 _ _ _ _ hl;exact AtStore.mid H hw ho hx hy hc (qL (qB hr)) (by simp [h1]) hp (by simpa using hl'.1) (by rw [← hl'.2];simp) h
theorem AtStore.midT (H:St w0 M L w) (hw:Region.wanted o1 (yielded ops a.tmps)=true) (ho:o1.op=.store ty x y) {g o:Nat} (hx:a.eval x=.pointer (some ⟨g,o,none⟩)) {v:Value} (hy:yU a y=some v) {vs:Array Value} (hv:wZ v=some vs)
  (hr:jW ty vs.size=true) (h1:Xj vs.toList=true) {cs:Array Value} {cs':List Value} {t:TypeId}
  (hp:Upd L (blk g (.cells cs t)) (blk g (.cells cs'.toArray t)) L') (hl:Xw cs.toList o vs.toList=some cs')
  (h:∀ w',St w0 M L' w'->wpList zb ops Q rest (a.put o1.dst undef) w'):AtStore zb ops Q o1 ty x y rest a w:=AtStore.mid H hw ho hx hy hv (Zh (xN hr)) (Y2 h1) hp (by simpa using (Y6 _ _ _ _ hl).1) (by rw [← (Y6 _ _ _ _ hl).2];simp) h
theorem QtLoad.wholeT {K:Act->Prop} (hw:Region.wanted o1 (yielded ops a.tmps)=true) (ho:o1.op=.load ty x) {g:Nat} (hx:a.eval x=.pointer (some ⟨g,0,none⟩)) {cs:Array Value} {t:TypeId} {fr:Nat×Nat} (hg:∀ y:Gr w1,y.1.heap[g]?=some (.cells cs t fr))
  (hr:jW ty cs.size=true) (h:wpQuiet zb ops (qt w1) K rest (a.put o1.dst (.agg cs))):QtLoad zb ops (qt w1) K o1 ty x rest a:=QtLoad.whole hw ho hx hg (xN hr) h
theorem QtLoad.rowT {K:Act->Prop} (hw:Region.wanted o1 (yielded ops a.tmps)=true) (ho:o1.op=.load ty x) {n g o:Nat} (hs:szO ty=some n) (hx:a.eval x=.pointer (some ⟨g,o,none⟩)) {cs:Array Value} {t:TypeId} {fr:Nat×Nat} (hg:∀ y:Gr w1,y.1.heap[g]?=some (.cells cs t fr))
  {vs:List Value} (hl:Ya cs.toList o n=some vs) (h:wpQuiet zb ops (qt w1) K rest (a.put o1.dst (.agg vs.toArray))):QtLoad zb ops (qt w1) K o1 ty x rest a:=QtLoad.row hw ho n hx hg (KT hs) (vB _ _ _ _ hl).1 (vB _ _ _ _ hl).2 h
theorem QtLoad.cellT {K:Act->Prop} (hw:Region.wanted o1 (yielded ops a.tmps)=true) (ho:o1.op=.load ty x) {g o:Nat} (hx:a.eval x=.pointer (some ⟨g,o,none⟩)) {cs:Array Value} {t:TypeId} {fr:Nat×Nat} (hg:∀ y:Gr w1,y.1.heap[g]?=some (.cells cs t fr))
  (hr:je ty=true) {v:Value} (hv:nth cs.toList o=some v) (h:wpQuiet zb ops (qt w1) K rest (a.put o1.dst v)):QtLoad zb ops (qt w1) K o1 ty x rest a:=QtLoad.cell hw ho hx hg (qB hr) hv h
theorem QtLoad.rngT {K:Act->Prop} (hw:Region.wanted o1 (yielded ops a.tmps)=true) (ho:o1.op=.load ty x) {g o:Nat} (hx:a.eval x=.pointer (some ⟨g,o,none⟩)) {vs:List Value} (hc:∀ y:Gr w1,y.1.rangeAt g o vs)
  (hr:jW ty vs.length=true) (h:wpQuiet zb ops (qt w1) K rest (a.put o1.dst (.agg vs.toArray))):QtLoad zb ops (qt w1) K o1 ty x rest a:=QtLoad.rng hw ho hx hc (xN hr) h
theorem jC {o:Oper} {n:Nat} {cs:Array Value} (hgd:Region.wanted o (yielded ops a.tmps)=true) (ho:o.op=.alloc ty) (hn:n<=w1.heap.size) {z:Value} (hz:zO ty=some z) (hc:wZ z=some cs):YR zb ops w1 o a (IsNew n cs ty none):=Vi hgd ho hn (K8 hz) hc
theorem xR {fn:Func} {p:Tmp} (h:fn.results=#[.cell p ty]) (H:St w0 M L w) {tmps:Array Value} {g:Nat} {cs:Array Value} {t:TypeId} {fr:Nat×Nat} (hp:tmps.getD p undef=.pointer (some ⟨g,0,none⟩)) (hk:Pick L (blk g (.cells cs t fr)) R) (hr:jW ty cs.size=true) :
  (results fn tmps).run zb w=.ok (.agg cs) w:=res_h h H hp hk (xN hr)
theorem xd {fn:Func} {p u:Tmp} (h:fn.results=#[.cell p ty,.tmp u]) (H:St w0 M L w) {tmps:Array Value} {g:Nat} {cs:Array Value} {t:TypeId} {fr:Nat×Nat} (hp:tmps.getD p undef=.pointer (some ⟨g,0,none⟩)) (hk:Pick L (blk g (.cells cs t fr)) R) (hr:jW ty cs.size=true) {x:Value} (hx:tmps.getD u undef=x) :
  (results fn tmps).run zb w=.ok (.tuple #[.agg cs,x]) w:=res_h_tmp h H hp hk (xN hr) hx
end
theorem AtLoad.cel {ops:Array Oper} {Q:Exit->Act->World->Prop} {rest:List Oper} {a:Act} {w:World} {o1:Oper} {ty:TypeId} {x:Operand} (hw:Region.wanted o1 (yielded ops a.tmps)=true) (ho:o1.op=.load ty x) {g o:Nat} (hx:a.eval x=.pointer (some ⟨g,o,none⟩)) (hr:je ty=true) {v:Value} (hc:w.cell? ⟨g,o,none⟩=some v)
  (h:wpList zb ops Q rest (a.put o1.dst v) w):AtLoad zb ops Q o1 ty x rest a w :=
 wpList_step fun _ hK=>by
  rw [if_pos hw];have hr:=qB hr;unfold xj at hr;simp only [zu,beq_iff_eq] at hr;have hl:(Instr.loadAt ty (.pointer (some ⟨g,o,none⟩))).run zb w=.ok v w:=by
   cases hu:zb.underlying ty with
   |none=>simp [hu] at hr
   |some d =>
    have hagg:(isAgg ty).run zb w=.ok false w:=by
     unfold isAgg;rw [Sem.run_bind,run_underlying hu w];simp only [hu] at hr;cases d <;> simp_all
    simp [Instr.loadAt,Instr.sureAddr,loadVar,Sem.run_bind,hagg,run_load,hc]
  unfold Oper.wp execOp;simp only [ho,hx,Sem.run_bind,hl,Result.andThen_ok];exact hK _ _ h
theorem QtLoad.cel {ops:Array Oper} {K:Act->Prop} {rest:List Oper} {a:Act} {w1:World} {o1:Oper} {ty:TypeId} {x:Operand} (hw:Region.wanted o1 (yielded ops a.tmps)=true) (ho:o1.op=.load ty x) {g o:Nat} (hx:a.eval x=.pointer (some ⟨g,o,none⟩)) (hr:je ty=true) {v:Value} (hc:∀ y:Gr w1,y.1.cell? ⟨g,o,none⟩=some v)
  (h:wpQuiet zb ops (qt w1) K rest (a.put o1.dst v)):QtLoad zb ops (qt w1) K o1 ty x rest a :=
 wpQuiet_step fun _ hK=>by
  rw [if_pos hw];have hr:=qB hr;unfold xj at hr;simp only [zu,beq_iff_eq] at hr;refine ⟨v,fun w2 ⟨y,hy⟩=>?_,hK _ h⟩;subst hy;have hl:(Instr.loadAt ty (.pointer (some ⟨g,o,none⟩))).run zb y.1=.ok v y.1:=by
   cases hu:zb.underlying ty with
   |none=>simp [hu] at hr
   |some d =>
    have hagg:(isAgg ty).run zb y.1=.ok false y.1:=by
     unfold isAgg;rw [Sem.run_bind,run_underlying hu y.1];simp only [hu] at hr;cases d <;> simp_all
    simp [Instr.loadAt,Instr.sureAddr,loadVar,Sem.run_bind,hagg,run_load,hc y]
  unfold Oper.quietAt execOp;simp only [ho,hx,Sem.run_bind,hl,Result.andThen_ok];exact ⟨rfl,rfl⟩
theorem zV {w:World} {g:Nat} {C:Array Value} {e:TypeId} (h:(blk g (.cells C e)).ho w) {p:Nat} {v:Value} (hv:C[p]?=some v):w.cell? ⟨g,p,none⟩=some v:=by
 rw [xp] at h;rw [cell_of_row w g p C e (0,0) h,hv]
theorem kE {A:As} {w:World} {ad:Addr} {v:Value} (h:A.ho w) (hc:Hid (∀ w,A.ho w->w.cell? ad=some v)):w.cell? ad=some v:=hc.out w h
section
variable {P Q:Prop}
structure Wr (p:Prop):Prop where
 out:p
theorem kc (h:P:=by first|exact zV (H.get pk) (Hid.out (by with_reducible assumption))|exact kE (H.get .here) (by with_reducible assumption)|exact kE (H.get (.there .here)) (by with_reducible assumption)|exact kE (H.get (.there (.there .here))) (by with_reducible assumption)|exact kE (H.get (.there (.there (.there .here)))) (by with_reducible assumption)|exact kE (H.get (.there (.there (.there (.there .here))))) (by with_reducible assumption)|exact kE (H.get (.there (.there (.there (.there (.there .here)))))) (by with_reducible assumption)|exact kE (H.get (.there (.there (.there (.there (.there (.there .here))))))) (by with_reducible assumption)|exact kE (H.get (.there (.there (.there (.there (.there (.there (.there .here)))))))) (by with_reducible assumption)|exact kE (H.known HK .here) (by with_reducible assumption)|exact kE (H.known HK (.there .here)) (by with_reducible assumption)|exact kE (H.known HK (.there (.there .here))) (by with_reducible assumption)|exact kE (H.known HK (.there (.there (.there .here)))) (by with_reducible assumption)):P:=h
theorem kq (h:P:=by first|exact fun y=>zV ((HX y).get pk) (Hid.out (by with_reducible assumption))|exact fun y=>kE ((HX y).get .here) (by with_reducible assumption)|exact fun y=>kE ((HX y).get (.there .here)) (by with_reducible assumption)|exact fun y=>kE ((HX y).get (.there (.there .here))) (by with_reducible assumption)|exact fun y=>kE ((HX y).get (.there (.there (.there .here)))) (by with_reducible assumption)|exact fun y=>kE ((HX y).get (.there (.there (.there (.there .here))))) (by with_reducible assumption)|exact fun y=>kE ((HX y).get (.there (.there (.there (.there (.there .here)))))) (by with_reducible assumption)|exact fun y=>kE ((HX y).get (.there (.there (.there (.there (.there (.there .here))))))) (by with_reducible assumption)|exact fun y=>kE ((HX y).get (.there (.there (.there (.there (.there (.there (.there .here)))))))) (by with_reducible assumption)|exact fun y=>kE ((HX y).known HK .here) (by with_reducible assumption)|exact fun y=>kE ((HX y).known HK (.there .here)) (by with_reducible assumption)|exact fun y=>kE ((HX y).known HK (.there (.there .here))) (by with_reducible assumption)|exact fun y=>kE ((HX y).known HK (.there (.there (.there .here)))) (by with_reducible assumption)):P:=h
theorem sL (q:Q) (h:Wr Q->P:=by
 intro hq;first
 |with_reducible refine qh ?_
  first|refine AtLoad.cellT rfl rfl rfl gt rfl rfl ?_|refine AtLoad.wholeT rfl rfl rfl gt rfl ?_|refine AtLoad.rowT rfl rfl rfl rfl gt rfl ?_|refine AtLoad.cel rfl rfl rfl rfl kc ?_
 |with_reducible refine isField ?_
  first|refine AtField.cellT rfl rfl rfl rfl rfl rfl ?_|refine AtField.rowT rfl rfl rfl rfl rfl rfl ?_
 simp only [Act.put,puA,puB,puC];exact hq.out):P:=h ⟨q⟩
theorem sS (q:Q) (h:Q->P:=by
 intro hq;first
 |with_reducible refine yl ?_
  first|refine AtStore.cellT H rfl rfl rfl rfl rfl rfl pk rfl ?_|refine AtStore.wholeT H rfl rfl rfl rfl rfl rfl pk rfl ?_|refine AtStore.midT H rfl rfl rfl rfl rfl rfl rfl pk rfl ?_
 |with_reducible refine isBox ?_
  refine AtBox.go H rfl rfl rfl rfl ?_
 |with_reducible refine isAlloc ?_
  refine AtAlloc.goT H rfl rfl rfl rfl ?_
 simp only [Act.put,puA,puB,puC];exact hq):P:=h q
theorem sA (q:Q) (h:Q->P:=by
 intro hq;with_reducible refine isAlloc ?_
 refine AtAlloc.goT H rfl rfl rfl rfl ?_;simp only [Act.put,puA,puB,puC];exact hq):P:=h q
theorem sQ (q:Q) (h:Wr Q->P:=by
 intro hq;with_reducible refine yp ?_
 first|refine QtLoad.cellT rfl rfl rfl gq rfl rfl ?_|refine QtLoad.wholeT rfl rfl rfl gq rfl ?_|refine QtLoad.rowT rfl rfl rfl rfl gq rfl ?_|refine QtLoad.cel rfl rfl rfl rfl kq ?_
 simp only [Act.put,puA,puB,puC];exact hq.out):P:=h ⟨q⟩
theorem sG (q:Q) (h:Q->P:=by
 intro hq;simp only [YP,KJ,zX,ye,List.take_succ_cons,jA,wQ,yw];exact hq):P:=h q
theorem sT (q:Q) (h:Q->P:=by
 intro hq;try simp only [Xb,putB,valK,qQ,zo,zv,wQ,yw]
 try simp only [Act.put,puA,puB,puC]
 exact hq):P:=h q
theorem sH (p:P) (h:P->Q:=by
 intro h;try simp only [Xb,putB,valK,qQ,zo,zv,wQ,yw] at h
 exact h):Q:=h p
theorem fs1 (h:P:=by first|exact jC rfl rfl hw1 rfl rfl|exact fstep_slice1 rfl rfl rfl rfl rfl rfl rfl rfl hw1):P:=h
end
end
section
open Go.RowKit Go.Maps
theorem qI {α:Type} {l:List α} {i:Nat} {x:α} (h:l[i]?=some x):i<l.length:=(xB.1 h).1
theorem ownBlock_mem {v:Value} {b:Nat}:b∈v.ownBlock.toList↔v.ownBlock=some b:=by
 cases v.ownBlock <;> simp [eq_comm]
def QD (e:TypeId) (size:Nat) (v:Value) (n:Nat) (xs:List Value):As:=⟨v.ownBlock.toList,fun w=>w.ownsRow 0 e size v n xs,
 fun w w' h hw=>by
  refine ⟨hw.1,?_⟩;rcases hw.2 with hn|⟨g,cap,cur,rfl,hb,hg,rest⟩
  ·exact .inl hn
  ·exact .inr ⟨g,cap,cur,rfl,hb,(h g (ownBlock_mem.2 rfl)).trans hg,rest⟩,
 fun w hw b hb=>(hw.lt b (ownBlock_mem.1 hb)).2⟩
theorem rawA_ho (e:TypeId) (size:Nat) (v:Value) (n:Nat) (xs:List Value) (w:World):(QD e size v n xs).ho w=w.ownsRow 0 e size v n xs:=rfl
def zc {α:Type} (enc:α->List Value) (e:TypeId) (k:Nat) (v:Value) (xs:List α):As:=QD e k v xs.length (zU enc xs)
section
variable {α:Type} {enc:α->List Value} {e:TypeId} {k:Nat} {v:Value} {xs:List α} {w:World}
theorem qW:(zc enc e k v xs).fp=v.ownBlock.toList:=rfl
theorem qq (w:World):(zc enc e k (.slice none 0 0) []).ho w:=World.ownsRow_nil w 0 e k
theorem zE (h:(zc enc e k v xs).ho w):∃ a c,v=.slice a xs.length c∧xs.length<=maxLen:=by
 rcases h.2 with ⟨h1,h2⟩|⟨g,cap,cur,h1,_,_,h4,h5,_⟩
 ·exact ⟨none,0,by rw [h1,h2],by rw [h2];simp [maxLen]⟩
 ·exact ⟨_,_,h1,qs h4 h5⟩
theorem q8 (h:(zc enc e k v xs).ho w) (hx:0<xs.length):∃ g c,v=.slice (some ⟨g,0,none⟩) xs.length c∧xs.length<=c∧c<=maxLen:=by
 rcases h.2 with ⟨_,h2⟩|⟨g,cap,cur,h1,_,_,h4,h5,_⟩
 ·omega
 ·exact ⟨g,cap,h1,h4,h5⟩
theorem wd {g n c:Nat} (h:(zc enc e k (.slice (some ⟨g,0,none⟩) n c) xs).ho w) (hk:∀ x,(enc x).length=k) {i:Nat} {x:α} (hx:xs[i]?=some x):w.rangeAt g (i*k) (enc x):=by
 intro j u hj;have hjk:j<k:=(by rw [← hk x];exact qI hj);have h1:=World.ownsRow.cells h (g:=g) rfl (i*k+j) u (by rw [ZX enc k hk xs i x hx j hjk];exact hj);rwa [Addr.add_mid,qQ] at h1
theorem qj {g n c:Nat} (h:(zc enc e k (.slice (some ⟨g,0,none⟩) n c) xs).ho w) (hk:∀ x,(enc x).length=k) {i:Nat} {x:α} (hx:xs[i]?=some x) {j:Nat} {u:Value} (hj:(enc x)[j]?=some u):w.cell? ⟨g,i*k+j,none⟩=some u:=wd h hk hx j u hj
theorem Zi {g:Nat} {cs:Array Value} (h:w.heap[g]?=some (.cells cs e)) (hn:xs.length<=maxLen) (hc:cs.toList=zU enc xs) (hk:∀ x,(enc x).length=k):(zc enc e k (.slice (some ⟨g,0,none⟩) xs.length xs.length) xs).ho w:=by
 refine ⟨yW enc k hk xs,.inr ⟨g,xs.length,cs,rfl,qy _,h,zr _,hn,?_,?_⟩⟩
 ·rw [← yW enc k hk xs,← hc];simp
 ·rw [hc];exact qp (by rw [yW enc k hk xs];exact zr _)
end
attribute [irreducible] zc
theorem WS {w w':World} {e:TypeId} {size:Nat} {v v':Value} {n n':Nat} {xs xs':List Value} (ho:w'.os=w.os) (ht:w'.tape=w.tape) (hp:w'.output=w.output) (hs:w.heap.size<=w'.heap.size)
  (hk:∀ b,b<w.heap.size->v.ownBlock≠some b->w'.heap[b]?=w.heap[b]?) (hr:w'.ownsRow 0 e size v' n' xs') (hf:∀ b,v'.ownBlock=some b->w.heap.size<=b∨v.ownBlock=some b):St w (QD e size v n xs).fp [QD e size v' n' xs'] w' :=
 ⟨ho,ht,hp,hs,fun b hb hm=>hk b hb fun e=>hm (ownBlock_mem.2 e),fun A hA=>by simp at hA;subst hA;exact hr,fun A hA b hb=>by simp at hA;subst hA;rcases hf b (ownBlock_mem.1 hb) with h|h;exact .inl h;exact .inr (ownBlock_mem.2 h),by simp⟩
section
variable {P:Program} {w:World}
theorem Qj (t ty e:TypeId) (i:TypeInfo) (z:Value) (size bytes:Nat) (ht:P.underlying t=some (.slice e)) (hi:P.info? e=some i) (hz:i.zero=some z)
  (hsize:i.size=size) (hby:i.bytes=bytes) (hzs:z.cells.size=size) (hsz:0<size)
  (v:Value) (n:Nat) (xs:List Value) (hown:(QD e size v n xs).ho w)
  (a:Addr) (m c:Nat) (news:List Value) (hl:news.length=m*size) (hnews:∀ j u,news[j]?=some u->w.cell? (a.add j)=some u) (h1:∀ u∈news,u.oneCell'=true)
  (hbytes:(n+m)*bytes<=140737488355328) (hb1:0<bytes) :
  ∃ v' w',(Builtin.append_ #[t,t] ty #[v,.slice (some a) m c]).run P w=.ok v' w'∧St w (QD e size v n xs).fp [QD e size v' (n+m) (xs++news)] w':=by
 rw [rawA_ho] at hown;have h47:n+m<=140737488355328:=qs (jg _ hb1) hbytes;have h63:n+m<=maxLen:=(by simp only [maxLen];omega);by_cases hroom:∃ g cap,v=.slice (some ⟨g,0,none⟩) n cap∧n+m<=cap
 ·obtain ⟨v',w',hr,h2,h3,h4⟩:=run_append_own (P:=P) w 0 t ty e i z size bytes ht hi hz hsize hby hzs hsz v n xs hown a m c news hl hnews h1 h63 hbytes (qy _);obtain ⟨g,cap,rfl,hc⟩:=hroom;rcases hown.2 with ⟨h,_⟩|⟨g',cap',cur,hv,_,hg,_,hcm,hcs,htake⟩
  ·cases h
  ·injection hv with e1 e2 e3
   injection e1 with e1
   injection e1 with e1
   subst e1 e3;have hr2:=run_append_room (P:=P) w t ty e i ht hi g n cap cur hg a m c news (by rw [hsize];exact hl) hnews h1 hc (by rw [hsize,hl,hcs,← xl];exact y9 _ hc);rw [hr2] at hr;injection hr with e1 e2
   subst e1 e2;exact ⟨_,_,hr2,WS rfl rfl rfl (by simp) (fun b hb hne=>h3.block b hb (fun e=>hne e.symm)) h2 (fun b hb=>.inr hb)⟩
 ·subst hsize hby;have hlen:(xs++news).length=(n+m)*i.size:=(by rw [zi,hown.1,hl,xl]);have grown:∀ (old:Nat),old<n+m ->
    St w (QD e i.size v n xs).fp [QD e i.size (.slice (some ⟨w.heap.size,0,none⟩) (n+m) (grownCap w (n+m) old e)) (n+m) (xs++news)] (w.drew.alloc (.cells (xs.toArray++news.toArray++Builtin.zeroCells z.cells (grownCap w (n+m) old e-(n+m))) e)):=by
   intro old ho;have hge:=grownCap_ge w (n+m) old e;have hcm:grownCap w (n+m) old e<=maxLen:=grownCap_le_maxLen w (n+m) old e h63;refine WS rfl rfl rfl (by simp) (fun b hb _=>kI w.drew _ b hb) ⟨hlen,.inr ⟨w.heap.size,_,_,rfl,qy _,Vp w.drew _,hge,hcm,?_,?_⟩⟩ (fun b hb=>.inl (by injection hb with hb;exact Nat.le_of_eq hb))
   ·simp only [Array.size_append,XV,size_zeroCells,hzs,hown.1,hl,← xl];congr 1
    omega
   ·simp only [Array.toList_append,zQ];rw [← zQ,← hlen];exact List.take_left
  rcases hown.2 with ⟨rfl,rfl⟩|⟨g,cap,cur,rfl,hbg,hg,hnc,hcm,hcs,htake⟩
  ·have hx:xs=[]:=qe (by simpa using hown.1);subst hx;by_cases hm:m=0
   ·subst hm;have hn:news=[]:=qe (by simpa using hl);subst hn;refine ⟨.slice none 0 0,w,?_,WS rfl rfl rfl (zr _) (fun _ _ _=>rfl) (World.ownsRow_nil w 0 e i.size) (fun b hb=>.inr hb)⟩;simp [Builtin.append_,run_underlying ht,sizeOf,typeInfo,hi,Builtin.lenOf,Builtin.firstCells,loadCells,loadCellsFrom]
   ·have hr:=run_append_nil (P:=P) w t ty e i z ht hi hz a m c news hl hnews (by omega) (by omega) (by have hb:=hbytes;simp only [qQ] at hb;omega);have hgr:=grown 0 (by omega);simp only [qQ,zv,Array.empty_append] at hgr ⊢;exact ⟨_,_,hr,hgr⟩
  ·have hroom':¬ n+m<=cap:=fun h=>hroom ⟨g,cap,rfl,h⟩
   have holds:∀ j u,xs[j]?=some u->w.cell? ((⟨g,0,none⟩:Addr).add j)=some u:=hown.cells (g:=g) rfl;have hr:=run_append_grow (P:=P) w t ty e i z ht hi hz ⟨g,0,none⟩ n cap xs hown.1 holds a m c news hl hnews (by omega) (by omega) (growslice_fits (by omega) hbytes);exact ⟨_,_,hr,grown cap (by omega)⟩
end
def KP:List (Nat×Nat):=[(22,106),(29,98),(42,5),(54,131),(55,3),(56,9),(63,26),(120,74),(140,146),(159,164),(176,179),(209,214),(219,222),(231,230),(235,234),(244,265),(248,254)]
def infosT:List (Nat×(Value×Nat×Nat)):=[(106,(.agg #[.bool false,.int .i64 0,.int .i64 0,.string ⟨#[]⟩],4,40)),(98,(.agg #[.bool false,.int .i64 0,.int .i64 0,.int .i64 0],4,32)),(5,(.int .u8 0,1,1)),(131,(.agg #[.int .i64 0,.int .u8 0,.int .i64 0,.int .i64 0,.int .i64 0],5,40)),(3,(.int .i64 0,1,8)),(9,(.string ⟨#[]⟩,1,16)),(26,(.int .i64 0,1,8)),(74,(.int .u64 0,1,8)),(146,(.agg #[.int .i64 0,.int .u8 0,.int .i64 0,.int .i64 0,.int .i64 0,.int .i64 0,.int .i64 0,.int .i64 0,.int .i64 0,.int .u64 0,.int .u64 0,.int .i64 0,.bool false],13,104)),(164,(.agg #[.bool false,.int .i64 0,.int .i64 0,.int .i64 0,.slice none 0 0],5,56)),(179,(.agg #[.int .i64 0,.int .i64 0],2,16)),(214,(.agg #[.int .u64 0,.int .i64 0,.bool false],3,24)),(222,(.agg #[.int .i64 0,.int .i64 0],2,16)),(230,(.agg #[.int .i64 0,.int .i64 0,.int .i64 0,.int .i64 0],4,32)),(234,(.agg #[.int .i64 0,.int .i64 0],2,16)),(265,(.agg #[.int .i64 0,.int .i64 0,.int .u8 0,.int .i64 0,.int .i64 0,.int .i64 0,.int .i64 0,.int .i64 0],8,64)),(254,(.agg #[.int .i64 0,.int .i64 0,.int .u64 0,.int .i64 0],4,32))]
theorem sl_22:zb.underlying 22=some (.slice 106):=by kernel_rfl
theorem sl_29:zb.underlying 29=some (.slice 98):=by kernel_rfl
theorem sl_42:zb.underlying 42=some (.slice 5):=by kernel_rfl
theorem sl_54:zb.underlying 54=some (.slice 131):=by kernel_rfl
theorem sl_55:zb.underlying 55=some (.slice 3):=by kernel_rfl
theorem sl_56:zb.underlying 56=some (.slice 9):=by kernel_rfl
theorem sl_63:zb.underlying 63=some (.slice 26):=by kernel_rfl
theorem sl_120:zb.underlying 120=some (.slice 74):=by kernel_rfl
theorem sl_140:zb.underlying 140=some (.slice 146):=by kernel_rfl
theorem sl_159:zb.underlying 159=some (.slice 164):=by kernel_rfl
theorem sl_176:zb.underlying 176=some (.slice 179):=by kernel_rfl
theorem sl_209:zb.underlying 209=some (.slice 214):=by kernel_rfl
theorem sl_219:zb.underlying 219=some (.slice 222):=by kernel_rfl
theorem sl_231:zb.underlying 231=some (.slice 230):=by kernel_rfl
theorem sl_235:zb.underlying 235=some (.slice 234):=by kernel_rfl
theorem sl_244:zb.underlying 244=some (.slice 265):=by kernel_rfl
theorem sl_248:zb.underlying 248=some (.slice 254):=by kernel_rfl
theorem in_106:(zb.info? 106).map (fun i=>(i.zero,i.size,i.bytes))=some (some (.agg #[.bool false,.int .i64 0,.int .i64 0,.string ⟨#[]⟩]),4,40):=by kernel_rfl
theorem in_98:(zb.info? 98).map (fun i=>(i.zero,i.size,i.bytes))=some (some (.agg #[.bool false,.int .i64 0,.int .i64 0,.int .i64 0]),4,32):=by kernel_rfl
theorem in_5:(zb.info? 5).map (fun i=>(i.zero,i.size,i.bytes))=some (some (.int .u8 0),1,1):=by kernel_rfl
theorem in_131:(zb.info? 131).map (fun i=>(i.zero,i.size,i.bytes))=some (some (.agg #[.int .i64 0,.int .u8 0,.int .i64 0,.int .i64 0,.int .i64 0]),5,40):=by kernel_rfl
theorem in_3:(zb.info? 3).map (fun i=>(i.zero,i.size,i.bytes))=some (some (.int .i64 0),1,8):=by kernel_rfl
theorem in_9:(zb.info? 9).map (fun i=>(i.zero,i.size,i.bytes))=some (some (.string ⟨#[]⟩),1,16):=by kernel_rfl
theorem in_26:(zb.info? 26).map (fun i=>(i.zero,i.size,i.bytes))=some (some (.int .i64 0),1,8):=by kernel_rfl
theorem in_74:(zb.info? 74).map (fun i=>(i.zero,i.size,i.bytes))=some (some (.int .u64 0),1,8):=by kernel_rfl
theorem in_146:(zb.info? 146).map (fun i=>(i.zero,i.size,i.bytes))=some (some (.agg #[.int .i64 0,.int .u8 0,.int .i64 0,.int .i64 0,.int .i64 0,.int .i64 0,.int .i64 0,.int .i64 0,.int .i64 0,.int .u64 0,.int .u64 0,.int .i64 0,.bool false]),13,104):=by kernel_rfl
theorem in_164:(zb.info? 164).map (fun i=>(i.zero,i.size,i.bytes))=some (some (.agg #[.bool false,.int .i64 0,.int .i64 0,.int .i64 0,.slice none 0 0]),5,56):=by kernel_rfl
theorem in_179:(zb.info? 179).map (fun i=>(i.zero,i.size,i.bytes))=some (some (.agg #[.int .i64 0,.int .i64 0]),2,16):=by kernel_rfl
theorem in_214:(zb.info? 214).map (fun i=>(i.zero,i.size,i.bytes))=some (some (.agg #[.int .u64 0,.int .i64 0,.bool false]),3,24):=by kernel_rfl
theorem in_222:(zb.info? 222).map (fun i=>(i.zero,i.size,i.bytes))=some (some (.agg #[.int .i64 0,.int .i64 0]),2,16):=by kernel_rfl
theorem in_230:(zb.info? 230).map (fun i=>(i.zero,i.size,i.bytes))=some (some (.agg #[.int .i64 0,.int .i64 0,.int .i64 0,.int .i64 0]),4,32):=by kernel_rfl
theorem in_234:(zb.info? 234).map (fun i=>(i.zero,i.size,i.bytes))=some (some (.agg #[.int .i64 0,.int .i64 0]),2,16):=by kernel_rfl
theorem in_265:(zb.info? 265).map (fun i=>(i.zero,i.size,i.bytes))=some (some (.agg #[.int .i64 0,.int .i64 0,.int .u8 0,.int .i64 0,.int .i64 0,.int .i64 0,.int .i64 0,.int .i64 0]),8,64):=by kernel_rfl
theorem in_254:(zb.info? 254).map (fun i=>(i.zero,i.size,i.bytes))=some (some (.agg #[.int .i64 0,.int .i64 0,.int .u64 0,.int .i64 0]),4,32):=by kernel_rfl
theorem slicesT_ok:∀ p∈KP,zb.underlying p.1=some (.slice p.2):=by
 simp only [KP,zL,List.not_mem_nil,or_false,forall_eq_or_imp,forall_eq];exact ⟨sl_22,sl_29,sl_42,sl_54,sl_55,sl_56,sl_63,sl_120,sl_140,sl_159,sl_176,sl_209,sl_219,sl_231,sl_235,sl_244,sl_248⟩
theorem infosT_ok:∀ p∈infosT,(zb.info? p.1).map (fun i=>(i.zero,i.size,i.bytes))=some (some p.2.1,p.2.2.1,p.2.2.2):=by
 simp only [infosT,zL,List.not_mem_nil,or_false,forall_eq_or_imp,forall_eq];exact ⟨in_106,in_98,in_5,in_131,in_3,in_9,in_26,in_74,in_146,in_164,in_179,in_214,in_222,in_230,in_234,in_265,in_254⟩
def yv (t:Nat):Option Nat:=Wv t KP
def xx (t:Nat):Option (Value×Nat×Nat):=Wv t infosT
theorem yi {t e:Nat} (h:yv t=some e):zb.underlying t=some (.slice e):=slicesT_ok _ (vR h)
theorem x6 {t:Nat} {z:Value} {s b:Nat} (h:xx t=some (z,s,b)):∃ i,zb.info? t=some i∧i.zero=some z∧i.size=s∧i.bytes=b:=by
 have:=infosT_ok _ (vR h);obtain ⟨i,h1,h2,h3,h4⟩:=info_parts this;exact ⟨i,h1,h2,h3,h4⟩
section
variable {ops:Array Oper} {Q:Exit->Act->World->Prop} {rest:List Oper} {a:Act} {w w0 w1:World} {M:List Nat} {L L' R:List As} {o1:Oper} {dst:Option Tmp} {ty0:TypeId} {pos:String} {aft:Array Edge} {gd:Option (Nat×Bool)}
def AtAppend (P:Program) (ops:Array Oper) (Q:Exit->Act->World->Prop) (o:Oper) (_:TypeId) (_ _:Operand) (rest:List Oper) (a:Act) (w:World):Prop:=wpList P ops Q (o::rest) a w
theorem qJ {P:Program} {t:TypeId} {x y:Operand} (h:AtAppend P ops Q ⟨dst,.call ⟨.builtin .append,#[x,y],#[t,t]⟩,ty0,pos,aft,gd⟩ t x y rest a w):wpList P ops Q (⟨dst,.call ⟨.builtin .append,#[x,y],#[t,t]⟩,ty0,pos,aft,gd⟩::rest) a w:=h
theorem AtAppend.go {α:Type} {enc:α->List Value} {t e:TypeId} {x y:Operand} (H:St w0 M L w) (hw:Region.wanted o1 (yielded ops a.tmps)=true) (ho:o1.op=.call ⟨.builtin .append,#[x,y],#[t,t]⟩) (hte:yv t=some e) {z:Value} {k bytes:Nat} (hi:xx e=some (z,k,bytes))
  (hz:z.cells.size=k) (hk0:0<k) (hb0:0<bytes) {v:Value} (hx:yU a x=some v) {xs:List α} (hp:Pick L (zc enc e k v xs) R) {s m c:Nat} (hy:a.eval y=.slice (some ⟨s,0,none⟩) m c) {cs:Array Value} {fr:Nat×Nat} (hg:w.heap[s]?=some (.cells cs e fr)) (ys:List α) (hm:ys.length=m)
  (hcs:cs.toList=zU enc ys) (hk:∀ x,(enc x).length=k) (h1:∀ x,∀ u∈enc x,u.oneCell'=true) (hb:(xs.length+ys.length)*bytes<=140737488355328)
  (h:∀ ad cp w',St w0 M (zc enc e k (.slice ad (xs.length+m) cp) (xs++ys)::R) w'->wpList zb ops Q rest (a.put o1.dst (.slice ad (xs.length+m) cp)) w'):AtAppend zb ops Q o1 t x y rest a w :=
 wpList_step fun _ hK=>by
  rw [if_pos hw];obtain ⟨i,h2,h3,h4,h5⟩:=x6 hi;have H':=H.pick hp;subst hm;have hrow:(QD e k v xs.length (zU enc xs)).ho w:=(by have:=H'.ho _ zN;unfold zc at this;exact this);obtain ⟨v',w',hr,hst⟩:=Qj (P:=zb) t o1.type e i z k bytes (yi hte) h2 h3 h4 h5 hz hk0 v xs.length (zU enc xs) hrow ⟨s,0,none⟩ ys.length c (zU enc ys) (yW enc k hk ys) (fun j u hj=>by
   rw [Addr.add_mid,qQ,cell_of_row w s j cs e fr hg];rw [← hcs] at hj;simpa using hj) (fun u hu=>by
   obtain ⟨y,_,hy⟩:=List.mem_flatMap.1 hu;exact h1 y u hy) hb hb0
  unfold Oper.wp execOp;simp only [ho,resolve,invoke,builtin,Sem.run_bind,Sem.run_pure,Result.andThen_ok,xo,zX,ye,yg hx,hy,hr];have hst':St w (zc enc e k v xs).fp [zc enc e k v' (xs++ys)] w':=by
   unfold zc;rw [zi,show zU enc (xs++ys)=zU enc xs++zU enc ys by simp [zU]];exact hst
  obtain ⟨ad,cp,rfl,_⟩:=zE (hst'.ho _ zN);have hst2:=H'.call hst';simp only [zi] at hst2 ⊢;exact hK _ _ (h ad cp w' hst2)
end
end
section
open Go.RowKit Go.Maps
def zP (P:Program) (kt:TypeId) (m:Nat) (es:List (Value×Value)):As:=⟨[m],fun w=>∃ (arr:Array MapEntry) (clock:Nat),w.heap[m]?=some (.map arr clock)∧arr.toList.map (fun e=>(e.key,e.val))=es∧∀ e∈es,∃ l,keyOf P kt e.1=some l,
 fun w w' h hw=>by obtain ⟨arr,c,h1,h2⟩:=hw;exact ⟨arr,c,(h m (by simp)).trans h1,h2⟩,
 fun w hw b hb=>by obtain ⟨arr,c,h1,_⟩:=hw;simp at hb;subst hb;exact lt_of_block h1⟩
section
variable {P:Program} {kt:TypeId} {m:Nat} {es:List (Value×Value)} {w:World}
theorem mapA_fp:(zP P kt m es).fp=[m]:=rfl
theorem mapA_of {g:Nat} {c:Nat} (h:w.heap[g]?=some (.map #[] c)):(zP P kt g []).ho w:=⟨#[],c,h,rfl,by simp⟩
theorem JE (K:Keyed P kt) (h:(zP P kt m es).ho w) {x:Value} {l:Lit} (hx:keyOf P kt x=some l):∃ (arr:Array MapEntry) (clock:Nat),w.heap[m]?=some (.map arr clock)∧arr.toList.map (fun e=>(e.key,e.val))=es ∧
  (((Instr.findKey kt x arr.toList).run P w=.ok none w∧∀ e∈es,e.1≠x)∨∃ j v,(Instr.findKey kt x arr.toList).run P w=.ok (some (j,v)) w∧es[j]?=some (x,v)):=by
 obtain ⟨arr,c,h1,h2,h3⟩:=h;refine ⟨arr,c,h1,h2,?_⟩;rcases K.find w hx arr.toList (fun e he=>h3 (e.key,e.val) (by rw [← h2];exact qY.2 ⟨e,he,rfl⟩)) with ⟨r1,r2⟩|⟨j,e,r1,r2,r3⟩
 ·refine .inl ⟨r1,fun e he=>?_⟩;rw [← h2] at he;obtain ⟨e',he',rfl⟩:=qY.1 he;exact r2 e' he'
 ·refine .inr ⟨j,e.val,r1,?_⟩;rw [← h2,yf,r2];simp [r3]
def Found (es:List (Value×Value)) (x z:Value) (v:Value) (ok:Bool):Prop:=(ok=true∧(x,v)∈es)∨(ok=false∧v=z∧∀ e∈es,e.1≠x)
theorem vG (K:Keyed P kt) (h:(zP P kt m es).ho w) {T et:TypeId} (hu:P.underlying T=some (.map kt et)) {x:Value} {l:Lit} (hx:keyOf P kt x=some l) {z:Value} (hz:∀ w,(zeroValue et).run P w=.ok z w) (ok:Bool) :
  ∃ v b,Found es x z v b∧(Instr.lookup T (.map (some m)) x ok).run P w=.ok (if ok then .tuple #[v,.bool b] else v) w:=by
 obtain ⟨arr,c,h1,h2,h3⟩:=JE K h hx;have hck:(Instr.checkKey arr.isEmpty 10000 kt x).run P w=.ok () w:=K.check w _ hx;rcases h3 with ⟨r1,r2⟩|⟨j,v,r1,r2⟩
 ·refine ⟨z,false,.inr ⟨rfl,rfl,r2⟩,?_⟩;unfold Instr.lookup;simp [run_underlying hu,MapKept.run_getObj_map h1,hck,r1,hz,Result.andThen]
 ·refine ⟨v,true,.inl ⟨rfl,zy r2⟩,?_⟩;unfold Instr.lookup;simp [run_underlying hu,MapKept.run_getObj_map h1,hck,r1,Result.andThen]
theorem Y8 (K:Keyed P kt) (h:(zP P kt m es).ho w) {T et:TypeId} (hu:P.underlying T=some (.map kt et)) {x v:Value} {l:Lit} (hx:keyOf P kt x=some l) (hn:∀ e∈es,e.1≠x) :
  ∃ w',(Instr.mapUpdate T (.map (some m)) x v).run P w=.ok () w'∧St w (zP P kt m es).fp [zP P kt m (es++[(x,v)])] w':=by
 obtain ⟨arr,c,h1,h2,h3⟩:=JE K h hx;have hck:(Instr.checkKey false 10000 kt x).run P w=.ok () w:=K.check w _ hx;rcases h3 with ⟨r1,_⟩|⟨j,v',r1,r2⟩
 ·refine ⟨{ w with heap:=w.heap.setIfInBounds m (.map (arr.push { key:=x,val:=v,born:=c }) (c+1)) },?_,?_⟩
  ·unfold Instr.mapUpdate;simp [run_underlying hu,MapKept.run_getObj_map h1,hck,r1,MapKept.run_setObj_map _ h1,Result.andThen]
  ·have hm:=lt_of_block h1;obtain ⟨_,_,_,_,h3'⟩:=h;refine ⟨rfl,rfl,rfl,by simp,fun b hb hne=>?_,fun A hA=>?_,fun A hA b hb=>?_,by simp⟩
   ·rw [mapA_fp] at hne;simp at hne;simp [XR,Ne.symm hne]
   ·simp at hA;subst hA;refine ⟨arr.push { key:=x,val:=v,born:=c },c+1,by simp [hm],by simp [h2],fun e he=>?_⟩;rcases zl.1 he with he|he
    ·exact h3' e he
    ·simp at he;subst he;exact ⟨l,hx⟩
   ·simp at hA;subst hA;rw [mapA_fp] at hb ⊢;exact .inr hb
 ·exact absurd rfl (hn _ (zy r2))
end
attribute [irreducible] zP
theorem St.rng {α:Type} {enc:α->List Value} {e k g n c i:Nat} {xs:List α} {x:α} {w0 w:World} {M:List Nat} {L K R:List As} (H:St w0 M L w) (HK:Ks w0 M K) (hp:Pick K (zc enc e k (.slice (some ⟨g,0,none⟩) n c) xs) R) (hk:∀ x,(enc x).length=k) (hx:xs[i]?=some x):w.rangeAt g (i*k) (enc x) :=
 wd (H.known HK hp) hk hx
theorem Wm:laidOutB zb=true:=by kernel_rfl
theorem mt_136:zb.underlying 136=some (.map 26 26):=by kernel_rfl
theorem un_26:zb.underlying 26=some (.int .i64):=by kernel_rfl
theorem Vu:Keyed zb 26:=int_keyed un_26
theorem mt_141:zb.underlying 141=some (.map 131 26):=by kernel_rfl
theorem YC:Keyed zb 131:=Keyed.of_law (deep_law_laid Wm (m:=100) (by omega) (QJ (by kernel_rfl)) (by kernel_rfl) (by kernel_rfl))
section
variable {ops:Array Oper} {Q:Exit->Act->World->Prop} {K:Act->Prop} {rest:List Oper} {a:Act} {w w0 w1:World} {M:List Nat} {L L' R:List As} {o1:Oper} {dst:Option Tmp} {ty0:TypeId} {pos:String} {aft:Array Edge} {gd:Option (Nat×Bool)}
theorem WP {t e:TypeId} (hte:yv t=some e) {z:Value} {k bytes:Nat} (hi:xx e=some (z,k,bytes)) (hk0:Nat.ble 1 k=true) (hk1:Nat.ble k 16777216=true) {v:Value} {cs:Array Value} (hc:wZ v=some cs) (hs:cs.size=k) (w:World) :
  (Instr.buildSlice t 1 #[(0,v)]).run zb w=.ok (.slice (some ⟨w.heap.size,0,none⟩) 1 1) (w.alloc (.cells cs e)):=by
 obtain ⟨i,h2,h3,h4,h5⟩:=x6 hi;have:=Jd (P:=zb) w t e cs (yi hte) (by simp [h2,h4,hs]) (by simp [h2,h3]) (by have:=QJ hk0;omega) (by have:=QJ hk1;omega);cases v <;> simp only [wZ,yk.injEq] at hc <;> subst hc <;> first|exact this|(simp only [Instr.buildSlice,Instr.fill,Value.cells] at this ⊢;exact this)
def AtSlice (P:Program) (ops:Array Oper) (Q:Exit->Act->World->Prop) (o:Oper) (_:TypeId) (_:Nat) (_:Array (Nat×Operand)) (rest:List Oper) (a:Act) (w:World):Prop:=wpList P ops Q (o::rest) a w
theorem qV {P:Program} {t:TypeId} {n:Nat} {ps:Array (Nat×Operand)} (h:AtSlice P ops Q ⟨dst,.buildSlice t n ps,ty0,pos,aft,gd⟩ t n ps rest a w):wpList P ops Q (⟨dst,.buildSlice t n ps,ty0,pos,aft,gd⟩::rest) a w:=h
theorem AtSlice.one {t e:TypeId} {x:Operand} (H:St w0 M L w) (hw:Region.wanted o1 (yielded ops a.tmps)=true) (ho:o1.op=.buildSlice t 1 #[(0,x)]) (hte:yv t=some e) {z:Value} {k bytes:Nat} (hi:xx e=some (z,k,bytes)) (hk0:Nat.ble 1 k=true) (hk1:Nat.ble k 16777216=true)
  {v:Value} (hx:yU a x=some v) {cs:Array Value} (hc:wZ v=some cs) (hs:cs.size=k)
  (h:∀ b w',St w0 M (blk b (.cells cs e)::L) w'->wpList zb ops Q rest (a.put o1.dst (.slice (some ⟨b,0,none⟩) 1 1)) w'):AtSlice zb ops Q o1 t 1 #[(0,x)] rest a w :=
 wpList_step fun _ hK=>by
  rw [if_pos hw];unfold Oper.wp execOp;simp only [ho,xo,zX,ye,yg hx,Sem.run_bind,WP hte hi hk0 hk1 hc hs,Result.andThen_ok,Sem.run_pure];exact hK _ _ (h _ _ (H.alloc _))
def QtLook (P:Program) (ops:Array Oper) (C:World->Prop) (K:Act->Prop) (o:Oper) (_:TypeId) (_ _:Operand) (_:Bool) (rest:List Oper) (a:Act):Prop:=wpQuiet P ops C K (o::rest) a
theorem isQLook {P:Program} {C:World->Prop} {t:TypeId} {x y:Operand} {ok:Bool} (h:QtLook P ops C K ⟨dst,.lookup t x y ok,ty0,pos,aft,gd⟩ t x y ok rest a):wpQuiet P ops C K (⟨dst,.lookup t x y ok,ty0,pos,aft,gd⟩::rest) a:=h
theorem QtLook.go {T kt et:TypeId} {x y:Operand} {ok:Bool} (hw:Region.wanted o1 (yielded ops a.tmps)=true) (ho:o1.op=.lookup T x y ok) {m:Nat} (hx:a.eval x=.map (some m)) {v:Value} (r:Value)
  (hr:∀ z:Gr w1,(Instr.lookup T (.map (some m)) v ok).run zb z.1=.ok r z.1) (hy:a.eval y=v)
  (h:wpQuiet zb ops (qt w1) K rest (a.put o1.dst r)):QtLook zb ops (qt w1) K o1 T x y ok rest a :=
 wpQuiet_step fun _ hK=>by
  rw [if_pos hw];refine ⟨r,fun w2 ⟨z,hz⟩=>?_,hK _ h⟩;subst hz;unfold Oper.quietAt execOp;simp only [ho,hx,hy,Sem.run_bind,hr z,Result.andThen_ok];exact ⟨rfl,rfl⟩
def AtUpdate (P:Program) (ops:Array Oper) (Q:Exit->Act->World->Prop) (o:Oper) (_:TypeId) (_ _ _:Operand) (rest:List Oper) (a:Act) (w:World):Prop:=wpList P ops Q (o::rest) a w
theorem Vq {P:Program} {t:TypeId} {x y z:Operand} (h:AtUpdate P ops Q ⟨dst,.mapUpdate t x y z,ty0,pos,aft,gd⟩ t x y z rest a w):wpList P ops Q (⟨dst,.mapUpdate t x y z,ty0,pos,aft,gd⟩::rest) a w:=h
theorem AtUpdate.new {T kt et:TypeId} {x y z:Operand} (KK:Keyed zb kt) (hu:zb.underlying T=some (.map kt et)) (H:St w0 M L w) (hw:Region.wanted o1 (yielded ops a.tmps)=true) (ho:o1.op=.mapUpdate T x y z) {m:Nat} (hx:a.eval x=.map (some m)) {es:List (Value×Value)} (hp:Pick L (zP zb kt m es) R)
  {k v:Value} (hy:a.eval y=k) (hz:yU a z=some v) {l:Lit} (hk:keyOf zb kt k=some l) (hn:∀ e∈es,e.1≠k)
  (h:∀ w',St w0 M (zP zb kt m (es++[(k,v)])::R) w'->wpList zb ops Q rest (a.put o1.dst undef) w'):AtUpdate zb ops Q o1 T x y z rest a w :=
 wpList_step fun _ hK=>by
  rw [if_pos hw];have H':=H.pick hp;obtain ⟨w',hr,hst⟩:=Y8 KK (H'.ho _ zN) hu (v:=v) hk hn;unfold Oper.wp execOp;simp only [ho,hx,hy,yg hz,Sem.run_bind,hr,Result.andThen_ok,Sem.run_pure];exact hK _ _ (h w' (H'.call hst))
end
end
section
open Go.RowKit Go.Maps
theorem ww {α:Type} (enc:α->List Value) (e:TypeId) (k:Nat) (v:Value) (xs:List α) (w:World):(zc enc e k v xs).ho w=w.ownsRow 0 e k v xs.length (zU enc xs):=by unfold zc;rfl
theorem qS {α:Type} (enc:α->List Value) (e:TypeId) (k:Nat) (v:Value) (xs:List α):(zc enc e k v xs).fp=v.ownBlock.toList:=by unfold zc;rfl
theorem Xx {α:Type} {enc:α->List Value} {t ty e:TypeId} (hte:yv t=some e) {z:Value} {k bytes:Nat} (hi:xx e=some (z,k,bytes)) (hz:z.cells.size=k) (hk0:0<k) (hb0:0<bytes)
  {v y:Value} {xs ys:List α} {w:World} (hx:(zc enc e k v xs).ho w) (hy:(zc enc e k y ys).ho w) (hk:∀ x,(enc x).length=k) (h1:∀ x,∀ u∈enc x,u.oneCell'=true) (hb:(xs.length+ys.length)*bytes<=140737488355328) :
  ∃ v' w',(Builtin.append_ #[t,t] ty #[v,y]).run zb w=.ok v' w'∧St w (zc enc e k v xs).fp [zc enc e k v' (xs++ys)] w':=by
 obtain ⟨i,h2,h3,h4,h5⟩:=x6 hi;rw [ww] at hx hy;rcases hy.2 with ⟨rfl,hn⟩|⟨g,cap,cur,rfl,_,hg,_,_,hcs,htake⟩
 ·have hr:=run_append_owned_none (P:=zb) (w:=w) 0 t ty e i k (yi hte) h2 v xs.length (zU enc xs) hx;have hys:ys=[]:=qe hn;subst hys;refine ⟨v,w,hr,?_⟩;rw [qO];exact St.one (by rw [ww];exact hx)
 ·obtain ⟨v',w',hr,hst⟩:=Qj (P:=zb) t ty e i z k bytes (yi hte) h2 h3 h4 h5 hz hk0 v xs.length (zU enc xs) hx ⟨g,0,none⟩ ys.length cap (zU enc ys) (yW enc k hk ys) (World.ownsRow.cells hy rfl) (fun u hu=>by
   obtain ⟨x,_,hx⟩:=List.mem_flatMap.1 hu;exact h1 x u hx) hb hb0
  refine ⟨v',w',hr,?_⟩;unfold zc;rw [zi,show zU enc (xs++ys)=zU enc xs++zU enc ys by simp [zU]];exact hst
theorem run_slice0 {t e:TypeId} (hte:yv t=some e) {z:Value} {k bytes:Nat} (hi:xx e=some (z,k,bytes)) (w:World) :
  (Instr.buildSlice t 0 #[]).run zb w=.ok (.slice (some ⟨w.heap.size,0,none⟩) 0 0) (w.alloc (.cells #[] e)):=by
 obtain ⟨i,h2,h3,h4,h5⟩:=x6 hi;simp [Instr.buildSlice,run_underlying (yi hte),sizeOf,typeInfo,h2,Instr.fill,newRow,Result.andThen];congr 2
 exact Array.eq_empty_of_size_eq_zero (by simp)
section
variable {ops:Array Oper} {o:Oper} {a:Act} {w w0:World} {M:List Nat} {L R:List As} {Rr:Value->World->Prop} {ty:TypeId} {x y:Operand}
theorem StStep.val {P:Program} {v:Value} {w':World} (hw:Region.wanted o (yielded ops a.tmps)=true) (hr:(execOp a.eval o).run P w=.ok (.value v) w') (h:Rr v w'):StStep P ops o a w Rr:=by
 unfold StStep;rw [if_pos hw];unfold jw;rw [hr];exact h
theorem StStep.cellT (hw:Region.wanted o (yielded ops a.tmps)=true) (ho:o.op=.load ty x) {g off:Nat} (hx:a.eval x=.pointer (some ⟨g,off,none⟩)) {cs:Array Value} {t:TypeId} {fr:Nat×Nat} (hg:w.heap[g]?=some (.cells cs t fr))
  (hr:je ty=true) {v:Value} (hv:nth cs.toList off=some v) (h:Rr v w):StStep zb ops o a w Rr :=
 StStep.val hw (by unfold execOp;simp only [ho,hx,Sem.run_bind,vF (qB hr) hg (by rw [YF] at hv;simpa using hv),Result.andThen_ok];rfl) h
theorem StStep.wholeT (hw:Region.wanted o (yielded ops a.tmps)=true) (ho:o.op=.load ty x) {g:Nat} (hx:a.eval x=.pointer (some ⟨g,0,none⟩)) {cs:Array Value} {t:TypeId} {fr:Nat×Nat} (hg:w.heap[g]?=some (.cells cs t fr))
  (hr:jW ty cs.size=true) (h:Rr (.agg cs) w):StStep zb ops o a w Rr :=
 StStep.val hw (by
  have hl:=jF (xN hr) hg (o:=0) (vs:=cs.toList) (by simp only [yw];exact qp (by simp)) (by simp);unfold execOp;simp only [ho,hx,Sem.run_bind,hl,Result.andThen_ok,Array.toArray_toList];rfl) h
theorem StStep.slice1 {α:Type} {enc:α->List Value} {t e:TypeId} (H:St w0 M L w) (hw:Region.wanted o (yielded ops a.tmps)=true) (ho:o.op=.buildSlice t 1 #[(0,x)]) (hte:yv t=some e) {z:Value} {k bytes:Nat} (hi:xx e=some (z,k,bytes)) (hk0:Nat.ble 1 k=true) (hk1:Nat.ble k 16777216=true)
  {v:Value} (hx:yU a x=some v) {cs:Array Value} (hc:wZ v=some cs) (hs:cs.size=k) (x0:α) (he:cs.toList=enc x0) (hk:∀ x,(enc x).length=k)
  (h:∀ b w',St w0 M (zc enc e k (.slice (some ⟨b,0,none⟩) 1 1) [x0]::L) w'->Rr (.slice (some ⟨b,0,none⟩) 1 1) w'):StStep zb ops o a w Rr :=
 StStep.val hw (by unfold execOp;simp only [ho,xo,zX,ye,yg hx,Sem.run_bind,WP hte hi hk0 hk1 hc hs,Result.andThen_ok];rfl)
  (h _ _ ((H.alloc (.cells cs e)).conv (by rw [qS,w8];rfl) fun hb=>Zi (xs:=[x0]) (by rw [xp] at hb;exact hb) (by simp [maxLen]) (by simp [zU,he]) hk))
theorem StStep.append {α:Type} {enc:α->List Value} {t e:TypeId} (hw:Region.wanted o (yielded ops a.tmps)=true) (ho:o.op=.call ⟨.builtin .append,#[x,y],#[t,t]⟩) (hte:yv t=some e) {z:Value} {k bytes:Nat} (hi:xx e=some (z,k,bytes)) (hz:z.cells.size=k) (hk0:0<k) (hb0:0<bytes)
  {v u:Value} {xs ys:List α} (hx:yU a x=some v) (hy:yU a y=some u) (H:St w0 M (zc enc e k v xs::L) w) (hu:(zc enc e k u ys).ho w) (hk:∀ x,(enc x).length=k) (h1:∀ x,∀ u∈enc x,u.oneCell'=true) (hb:(xs.length+ys.length)*bytes<=140737488355328)
  (h:∀ v' w',St w0 M (zc enc e k v' (xs++ys)::L) w'->Rr v' w'):StStep zb ops o a w Rr:=by
 obtain ⟨v',w',hr,hst⟩:=Xx (ty:=o.type) hte hi hz hk0 hb0 (H.ho _ zN) hu hk h1 hb;exact StStep.val hw (by unfold execOp;simp only [ho,resolve,invoke,builtin,Sem.run_bind,Sem.run_pure,Result.andThen_ok,xo,zX,ye,yg hx,yg hy,hr]) (h _ _ (H.call hst))
theorem StStep.storeT {g:Nat} (hw:Region.wanted o (yielded ops a.tmps)=true) (ho:o.op=.store ty x y) (hx:a.eval x=.pointer (some ⟨g,0,none⟩)) {cs':Array Value} (hy:yU a y=some (.agg cs')) (hr:jW ty cs'.size=true) (h1:Xj cs'.toList=true)
  {cs:Array Value} {t:TypeId} (H:St w0 M (blk g (.cells cs t)::L) w) (hl:cs.size=cs'.size) (h:∀ w',St w0 M (blk g (.cells cs' t)::L) w'->Rr undef w'):StStep zb ops o a w Rr:=by
 unfold StStep;rw [if_pos hw];have hg:w.heap[g]?=some (.cells cs t):=H.at Pick.here;have hr':=ks (P:=zb) w g 0 t ty cs (.agg cs') hg (Zh (xN hr)) (by simp [Value.cells];omega) (fun u hu=>by simpa using Array.all_eq_true'.1 (Y2 h1) u (by simpa [Value.cells] using hu));have e:(cs.toList.take 0++(Value.agg cs').cells.toList++cs.toList.drop (0+(Value.agg cs').cells.size)).toArray=cs':=by
  simp only [Value.cells,jA,zv,qQ];rw [yo (by simp;omega)];simp
 rw [e] at hr';unfold jw execOp;simp only [ho,hx,yg hy,Instr.storeAt,Instr.sureAddr,Sem.run_bind,Sem.run_pure,Result.andThen_ok,hr'];exact h _ (H.setRow Upd.here)
end
end
section
open Go.RowKit Go.Maps
abbrev wi:=List (Nat×Nat×List Value)
def qX (P:wi):As:=⟨P.map (·.1),fun w=>∀ x∈P,x.1<w.heap.size∧w.rangeAt x.1 x.2.1 x.2.2,
 fun w w' h hw x hx=>by
  have hb:=h x.1 (qY.2 ⟨x,hx,rfl⟩);obtain ⟨h1,h2⟩:=hw x hx;refine ⟨?_,fun j v hj=>?_⟩
  ·rw [Array.getElem?_eq_getElem h1] at hb;exact yV.1 hb |>.1
  ·rw [← h2 j v hj];unfold World.cell?;simp only [hb],
 fun w hw b hb=>by
  obtain ⟨x,hx,rfl⟩:=qY.1 hb;exact (hw x hx).1⟩
theorem WD (P:wi):(qX P).fp=P.map (·.1):=rfl
theorem kV (P:wi) (w:World):(qX P).ho w=∀ x∈P,x.1<w.heap.size∧w.rangeAt x.1 x.2.1 x.2.2:=rfl
theorem YG (w:World):(qX []).ho w:=by rw [kV];simp
attribute [irreducible] qX
theorem pool_rng {P:wi} {w:World} (h:(qX P).ho w) {g o:Nat} {vs:List Value} (hx:(g,o,vs)∈P):w.rangeAt g o vs:=by
 rw [kV] at h;exact (h _ hx).2
def RowIn {α:Type} (P:wi) (enc:α->List Value) (k:Nat) (v:Value) (xs:List α):Prop :=
 ∃ ad c,v=.slice ad xs.length c∧xs.length<=maxLen∧(0<xs.length->∃ g o,ad=some ⟨g,o,none⟩∧(g,o,zU enc xs)∈P)
section
variable {α:Type} {P Q:wi} {enc:α->List Value} {k:Nat} {v:Value} {xs:List α} {w:World}
theorem RowIn.shape (h:RowIn P enc k v xs):∃ ad c,v=.slice ad xs.length c∧xs.length<=maxLen:=by
 obtain ⟨ad,c,h1,h2,_⟩:=h;exact ⟨ad,c,h1,h2⟩
theorem RowIn.has (h:RowIn P enc k v xs) (hx:0<xs.length):∃ g o c,v=.slice (some ⟨g,o,none⟩) xs.length c∧xs.length<=maxLen:=by
 obtain ⟨ad,c,h1,h2,h3⟩:=h;obtain ⟨g,o,rfl,_⟩:=h3 hx;exact ⟨g,o,c,h1,h2⟩
theorem RowIn.mono (h:RowIn P enc k v xs) (hs:∀ x∈P,x∈Q):RowIn Q enc k v xs:=by
 obtain ⟨ad,c,h1,h2,h3⟩:=h;refine ⟨ad,c,h1,h2,fun hx=>?_⟩;obtain ⟨g,o,e,hm⟩:=h3 hx;exact ⟨g,o,e,hs _ hm⟩
theorem RowIn.nil (n:Nat):RowIn P enc k (.slice none 0 n) ([]:List α):=⟨none,n,rfl,by simp,fun h=>by simp at h⟩
theorem RowIn.rng {g o n c i:Nat} {x:α} (h:RowIn P enc k (.slice (some ⟨g,o,none⟩) n c) xs) (hp:(qX P).ho w) (hk:∀ x,(enc x).length=k) (hx:xs[i]?=some x):w.rangeAt g (o+i*k) (enc x):=by
 obtain ⟨ad,c',h1,h2,h3⟩:=h;obtain ⟨g',o',rfl,hm⟩:=h3 (by have:=qI hx;omega);injection h1 with e1 e2 e3
 injection e1 with e1
 injection e1 with e4 e5
 subst e4 e5;have hr:=pool_rng hp hm;intro j u hj;have hjk:j<k:=(by rw [← hk x];exact qI hj);have:=hr (i*k+j) u (by rw [ZX enc k hk xs i x hx j hjk];exact hj);rwa [← wA] at this
theorem RowIn.cell {g o n c i:Nat} {x:α} {u:Value} (h:RowIn P enc 1 (.slice (some ⟨g,o,none⟩) n c) xs) (hp:(qX P).ho w) (hk:∀ x,(enc x).length=1) (hx:xs[i]?=some x) (hu:enc x=[u]):w.cell? ⟨g,o+i,none⟩=some u:=by
 have:=h.rng hp hk hx 0 u (by rw [hu];rfl);simpa using this
theorem rowsA_pool {e:TypeId} (h:(zc enc e k v xs).ho w) (hk:∀ x,(enc x).length=k):∃ P,RowIn P enc k v xs∧(qX P).ho w∧∀ b∈(qX P).fp,b∈(zc enc e k v xs).fp:=by
 by_cases h0:0<xs.length
 ·obtain ⟨g,c,rfl,hc,hm⟩:=q8 h h0;refine ⟨[(g,0,zU enc xs)],⟨_,c,rfl,by omega,fun _=>⟨g,0,rfl,by simp⟩⟩,?_,?_⟩
  ·rw [kV];intro x hx;simp only [Zx] at hx;subst hx;refine ⟨(zc enc e k _ xs).lt w h g (by rw [qS];simp [Value.ownBlock]),fun j u hj=>?_⟩;rw [ww] at h;have h1:=World.ownsRow.cells h (g:=g) rfl j u hj;rwa [Addr.add_mid] at h1
  ·intro b hb;rw [WD] at hb;rw [qS];simpa [Value.ownBlock] using hb
 ·obtain ⟨ad,c,rfl,hm⟩:=zE h;exact ⟨[],⟨ad,c,rfl,hm,fun h=>absurd h h0⟩,YG w,by rw [WD];simp⟩
end
section
variable {P:Program} {ops:Array Oper} {Q:Exit->Act->World->Prop} {rest:List Oper} {a:Act} {w w0:World} {M:List Nat} {L:List As} {dst:Option Tmp} {ty0:TypeId} {pos:String} {aft:Array Edge} {gd:Option (Nat×Bool)}
def AtMakeMap (P:Program) (ops:Array Oper) (Q:Exit->Act->World->Prop) (o:Oper) (_:TypeId) (rest:List Oper) (a:Act) (w:World):Prop:=wpList P ops Q (o::rest) a w
theorem Jw {t:TypeId} (h:AtMakeMap P ops Q ⟨dst,.makeMap t none,ty0,pos,aft,gd⟩ t rest a w):wpList P ops Q (⟨dst,.makeMap t none,ty0,pos,aft,gd⟩::rest) a w:=h
theorem St.new_map (h:St w0 M L w) (P:Program) (kt:TypeId):St w0 M (zP P kt w.heap.size []::L) (w.alloc (.map #[] 0)):=by
 have:=h.alloc (.map #[] 0);refine this.conv (by rw [w8];unfold zP;rfl) fun hb=>?_
 rw [xp] at hb;exact mapA_of hb
theorem AtMakeMap.go {o1:Oper} {t:TypeId} (kt:TypeId) (H:St w0 M L w) (hw:Region.wanted o1 (yielded ops a.tmps)=true) (ho:o1.op=.makeMap t none)
  (h:∀ m w',St w0 M (zP P kt m []::L) w'->wpList P ops Q rest (a.put o1.dst (.map (some m))) w'):AtMakeMap P ops Q o1 t rest a w :=
 wpList_step fun _ hK=>by
  rw [if_pos hw];unfold Oper.wp execOp;have hr:(Instr.makeMap t none).run P w=.ok (.map (some w.heap.size)) (w.alloc (.map #[] 0)):=rfl;simp only [ho,Option.map_none,Sem.run_bind,hr,Result.andThen_ok,Sem.run_pure];exact hK _ _ (h _ _ (H.new_map P kt))
end
end
section
open Go.RowKit
section
variable {P:Program} {Q:Exit->Act->World->Prop} {a:Act} {w w0:World} {M:List Nat} {L R:List As}
def NewF (n0:Nat) (V:Value->Prop) (Y:Value->As) (v:Value) (w:World):Prop:=V v∧(∃ b,wB v=some b∧n0<=b∧(Y v).fp=[b])∧(Y v).ho w
theorem NewF.stable (n0:Nat) (V:Value->Prop) (Y:Value->As):∀ v w w',Grew w w'->NewF n0 V Y v w->NewF n0 V Y v w':=fun v w w' hg ⟨h1,h2,h3⟩ =>
 ⟨h1,h2,(Y v).loc w w' (fun b hb=>hg.block b ((Y v).lt w h3 b hb)) h3⟩
end
end
section
def PP:Nat:=2305843009213693951
theorem YS:PP=2305843009213693951:=rfl
theorem mod_PP (x:Nat) (h:x<18446744073709551616):(if 2305843009213693951<=x%2305843009213693952+x/2305843009213693952 then x%2305843009213693952+x/2305843009213693952-2305843009213693951 else x%2305843009213693952+x/2305843009213693952)=x%PP:=by
 unfold PP;split <;> omega
theorem mul_PP (x:Nat) :
  (x/18446744073709551616*8+x%18446744073709551616/2305843009213693952+x%18446744073709551616%2305843009213693952)%PP=x%PP:=by
 unfold PP;omega
def jf (r a:Nat):Nat->Nat
 |0=>r
 |n+1=>jf (if (n+1)%2=1 then r*a%PP else r) (a*a%PP) ((n+1)/2)
decreasing_by omega
theorem powLoop_eq (n:Nat):∀ r a,r<PP->jf r a n%PP=r*a ^ n%PP:=by
 induction n using yJ with
 |_ n ih =>
  intro r a hr
  match n with
  |0=>simp [jf]
  |n+1 =>
   rw [jf];have hlt:(n+1)/2<n+1:=(by omega);rw [ih _ hlt _ _ (by split <;> first|exact qM _ (by decide)|exact hr)];have key:(a*a%PP) ^ ((n+1)/2)%PP=a ^ (2*((n+1)/2))%PP:=by
    rw [Nat.pow_mul,← Nat.pow_mod,Nat.pow_two]
   rw [Yo,key,← Yo];by_cases hodd:(n+1)%2=1
   ·rw [if_pos hodd];have e1:n+1=2*((n+1)/2)+1:=(by omega);rw [Nat.mod_mul_mod,Zo,← Nat.pow_succ',J9,← e1]
   ·rw [if_neg hodd];have e1:n+1=2*((n+1)/2):=(by omega);rw [← e1]
theorem powLoop_lt (n:Nat):∀ r a,r<PP->jf r a n<PP:=by
 induction n using yJ with
 |_ n ih =>
  intro r a hr
  match n with
  |0=>simpa [jf] using hr
  |n+1 =>
   rw [jf];exact ih _ (by omega) _ _ (by split <;> first|exact qM _ (by decide)|exact hr)
theorem VK (n r a:Nat) (hr:r<PP):jf r a n=r*a ^ n%PP:=by
 rw [← powLoop_eq n r a hr,xI (powLoop_lt n r a hr)]
attribute [irreducible] PP
end
end Go.Proofs.YtgnppnokkdghcaaGreatDoor
section
namespace Go.Proofs
open Go.Shelf
def Tryz.lays264_ren:Go.Shelf.Ren:=⟨fun|264=>155|n=>n,fun|53=>74|46=>195|n=>n,fun|n=>n⟩
theorem Tryz.lays264:Go.Proofs.Lays.n264 zb Tryz.lays264_ren:={
 mixed:=by kernel_rfl
 f264:=Tryz.func155.trans (congrArg some (by kernel_rfl))
 t46:=Tryz.underlying195
 a46:=Tryz.isAgg195
 z46:=Tryz.sizeOf195
 v46:=Tryz.zeroValue195
 t53:=Tryz.underlying74
 a53:=Tryz.isAgg74
 z53:=Tryz.sizeOf74
 v53:=Tryz.zeroValue74 }
open Go.RowKit Go.Lib in
theorem Tryz.bits_Mul64 (x y:Nat) (hx:x<18446744073709551616) (hy:y<18446744073709551616) (w:World) :
  Calls zb 155 #[.int .u64 x,.int .u64 y] w fun e w'=>e=.returned (.tuple #[.int .u64 ((x*y/18446744073709551616:Nat):Int),.int .u64 ((x*y%18446744073709551616:Nat):Int)])∧w'=w:=Any.bits_Mul64 Tryz.lays264 x y hx hy w
end Go.Proofs
end
namespace Go.Proofs.YtgnppnokkdghcaaGreatDoor
end Go.Proofs.YtgnppnokkdghcaaGreatDoor
