/-
  Part 4 of the texts behind the statements of this seat: walks and laws Bs, Bt, Bu, Bv, Ca, Cb, Cc, Cd, Ce, Cf, Ag, Ah, Cg, Gk, Gl. Conditions: as each states.
-/
import Derived.Test.YtgnppnokkdghcaaGreatDoorAz3
set_option linter.unusedSimpArgs false
set_option linter.unusedVariables false
set_option maxRecDepth 100000
set_option maxHeartbeats 80000000
open Array renaming getElem?_setIfInBounds_ne→zz,getElem?_setIfInBounds_self_of_lt→wO
open Bool renaming and_eq_true→zu,false_eq_true→xA
open Go.Proofs.Tryz renaming func160→vd,ntmps160→ko,prog→zb
open Int renaming natCast_mul→Yl
open List renaming append_assoc→zQ,append_nil→qO,cons→Zq,cons_append→zo,drop_drop→Jf,drop_eq_getElem_cons→yj,drop_succ_cons→wQ,drop_zero→yw,eq_nil_of_length_eq_zero→qe,eq_of_mem_replicate→xy,flatMap_cons→zt,flatMap_nil→wW,flatMap_replicate→jc,foldl_cons→zB,foldl_nil→zx,getElem?_append_left→qv,getElem?_append_right→yd,getElem?_drop→yh,getElem?_eq_some_iff→xB,getElem?_map→yf,getElem?_replicate→x4,getElem?_take→wh,length→ym,length_append→zi,length_cons→zw,length_drop→qC,length_map→qd,length_nil→zC,length_replicate→qr,length_take→qg,map_append→xH,map_cons→zX,map_nil→ye,map_replicate→Qa,mem_append→zl,mem_cons→zL,mem_cons_self→zN,mem_map→qY,mem_of_getElem?→zy,mem_replicate→wq,nil_append→zv,replicate→zd,replicate_succ→zS,replicate_succ'→xG,setIfInBounds_toArray→zf,set_cons_succ→zp,set_cons_zero→zq,sum_replicate_nat→Xz,take_add_one→x5,take_of_length_le→qp,take_zero→jA
open Nat renaming add_assoc→wA,add_mul→xl,add_sub_cancel→xC,exists_eq_succ_of_ne_zero→zA,le_refl→zr,le_trans→qs,mul_comm→xO,mul_le_mul→ZB,mul_le_mul_right→y9,one_mul→QK,sub_self→QL,zero_add→qQ,zero_le→qy
open Option renaming map_some→Qb,toList→qb
namespace Go.Proofs.YtgnppnokkdghcaaGreatDoor
section
open Go.RowKit Go.Maps
attribute [local go_sem] qt
section
variable {ops:Array Oper} {a:Act} {w:World} {o:Oper} {Rr:Value->World->Prop}
theorem run_seg {t e:TypeId} (hte:yv t=some e) {z:Value} {bytes:Nat} (hi:xx e=some (z,1,bytes)) {g n c l h:Nat} (h1:l<=h) (h2:h<=c) (w:World) :
  (Instr.sliceAt t (.slice (some ⟨g,0,none⟩) n c) (some (.int .i64 (l:Nat))) (some (.int .i64 (h:Nat))) none).run zb w=.ok (.slice (some ⟨g,if c=l then 0 else l,none⟩) (h-l) (c-l)) w:=by
 obtain ⟨i,e2,e3,e4,e5⟩:=x6 hi;have hu:=yi hte;have hb:(Instr.sliceBound (Value.int .i64 (h:Nat)) c .sliceAcap).run zb w=.ok h w:=by
  unfold Instr.sliceBound;simp [asIntOf,h2]
 have hb2:(Instr.sliceBound (Value.int .i64 (l:Nat)) h .sliceB).run zb w=.ok l w:=by
  unfold Instr.sliceBound;simp [asIntOf,h1]
 by_cases hcl:c=l
 ·subst hcl;simp [Instr.sliceAt,Instr.slice,Instr.sliceBounds,run_underlying hu,sizeOf,typeInfo,e2,Sem.run_bind,Result.andThen,hb,hb2,Addr.add]
 ·simp [Instr.sliceAt,Instr.slice,Instr.sliceBounds,run_underlying hu,sizeOf,typeInfo,e2,Sem.run_bind,Result.andThen,hb,hb2,Addr.add,hcl,e4];try omega
theorem run_segL {t e:TypeId} (hte:yv t=some e) {z:Value} {bytes:Nat} (hi:xx e=some (z,1,bytes)) {g n c l:Nat} (h1:l<=n) (w:World) :
  (Instr.sliceAt t (.slice (some ⟨g,0,none⟩) n c) (some (.int .i64 (l:Nat))) none none).run zb w=.ok (.slice (some ⟨g,if c=l then 0 else l,none⟩) (n-l) (c-l)) w:=by
 obtain ⟨i,e2,e3,e4,e5⟩:=x6 hi;have hu:=yi hte;have hb2:(Instr.sliceBound (Value.int .i64 (l:Nat)) n .sliceB).run zb w=.ok l w:=by
  unfold Instr.sliceBound;simp [asIntOf,h1]
 by_cases hcl:c=l
 ·simp [Instr.sliceAt,Instr.slice,Instr.sliceBounds,run_underlying hu,sizeOf,typeInfo,e2,Sem.run_bind,Result.andThen,hb2,Addr.add,hcl]
 ·simp [Instr.sliceAt,Instr.slice,Instr.sliceBounds,run_underlying hu,sizeOf,typeInfo,e2,Sem.run_bind,Result.andThen,hb2,Addr.add,hcl,e4];try omega
theorem StStep.seg {t e:TypeId} {x y y2:Operand} (hw:Region.wanted o (yielded ops a.tmps)=true) (ho:o.op=.slice t x (some y) (some y2) none) (hte:yv t=some e) {z:Value} {bytes:Nat} (hi:xx e=some (z,1,bytes)) {g n c l h:Nat} (hx:a.eval x=.slice (some ⟨g,0,none⟩) n c) (hy:a.eval y=.int .i64 (l:Nat)) (hy2:a.eval y2=.int .i64 (h:Nat)) (h2:h<=c) {m cr:Nat} (hm:h=l+m) (hcr:c-l=cr)
  {of:Nat} (hof:of=if c=l then 0 else l) (hR:Rr (.slice (some ⟨g,of,none⟩) m cr) w):StStep zb ops o a w Rr :=
 StStep.val hw (by unfold execOp;simp only [ho,hx,hy,hy2,Option.map_none,Qb,Sem.run_bind,run_seg hte hi (show l<=h by omega) h2,Result.andThen_ok,Sem.run_pure,← hof,hcr,show h-l=m by omega]) hR
theorem StStep.segL {t e:TypeId} {x y:Operand} (hw:Region.wanted o (yielded ops a.tmps)=true) (ho:o.op=.slice t x (some y) none none) (hte:yv t=some e) {z:Value} {bytes:Nat} (hi:xx e=some (z,1,bytes)) {g n c l:Nat} (hx:a.eval x=.slice (some ⟨g,0,none⟩) n c) (hy:a.eval y=.int .i64 (l:Nat)) {m cr:Nat} (hm:n=l+m) (hcr:c-l=cr)
  {of:Nat} (hof:of=if c=l then 0 else l) (hR:Rr (.slice (some ⟨g,of,none⟩) m cr) w):StStep zb ops o a w Rr :=
 StStep.val hw (by unfold execOp;simp only [ho,hx,hy,Option.map_none,Qb,Sem.run_bind,run_segL hte hi (show l<=n by omega),Result.andThen_ok,Sem.run_pure,← hof,hcr,show n-l=m by omega]) hR
end
theorem XP {w:World} {g c l:Nat} {C:Array Value} {e:TypeId} {cap a:Nat} {f:Nat->Value} {new old:List Nat} {of m:Nat} (h:w.heap[g]?=some (.cells C e)) (hA:Arr C cap f new old a) (ha:a<=l) (hof:of=if c=l then 0 else l) (hlc:m≠0->l<c) (hm:l+m<=old.length) :
  ∀ (i:Nat) (u:Value),(((old.drop l).take m).map f)[i]?=some u->w.cell? ⟨g,of+i,none⟩=some u:=by
 intro i u hu;rw [yf] at hu;cases hx:((old.drop l).take m)[i]? with
 |none=>rw [hx] at hu;simp at hu
 |some x =>
  rw [hx] at hu;simp at hu;subst hu;have hi:i<m:=by
   have:=yE hx;rw [qg] at this;omega
  have hlt:=hlc (by omega);rw [hof,if_neg (by omega)];rw [wh,if_pos hi,yh] at hx;rw [cell_of_row w g (l+i) C e (0,0) h];exact hA.od (l+i) x (by omega) hx
theorem Xl {f:Nat->Nat->Bool} {F:Tr->Tr->Bool} (hF:∀ x y,F x y=f x.key y.key):∀ (l:List Tr) (o:Nat),qR f o (l.map Tr.key)=[]->zH F l=l
 |[],_,_=>rfl
 |[x],_,_=>rfl
 |x::y::r,o,h=>by
  simp only [zX,qR] at h;split at h
  ·simp at h
  ·rename_i hf;rw [zH,if_neg (by rw [hF];exact hf),Xl hF (y::r) (o+1) (by simpa using h)]
theorem Xm {f:Nat->Nat->Bool} {F:Tr->Tr->Bool} (hF:∀ x y,F x y=f x.key y.key):∀ (l:List Tr) (o i:Nat) (rest:List Nat),qR f o (l.map Tr.key)=i::rest ->
  ∃ (A:List Tr) (x y:Tr) (r:List Tr),l=A++x::y::r∧i=o+A.length∧rest=qR f (i+2) (r.map Tr.key)∧zH F l=A ++ .pair x y::zH F r
 |[],_,_,_,h=>by simp [qR] at h
 |[x],_,_,_,h=>by simp [qR] at h
 |x::y::r,o,i,rest,h=>by
  simp only [zX,qR] at h;split at h
  ·rename_i hf;injection h with h1 h2
   subst h1;exact ⟨[],x,y,r,rfl,rfl,h2.symm,by rw [zH,if_pos (by rw [hF];exact hf)];rfl⟩
  ·rename_i hf;obtain ⟨A,x',y',r',e1,e2,e3,e4⟩:=Xm hF (y::r) (o+1) i rest (by simpa using h);exact ⟨x::A,x',y',r',by rw [e1];rfl,by simp;omega,e3,by rw [zH,if_neg (by rw [hF];exact hf),e4];rfl⟩
structure PairsIn (X X':Px) (L:Nat) (ts:List Tr) (ids ix:List Nat) (j at_ kn:Nat) (C K:Array Value) (ci ck:Nat) (nids:List Nat) (new:List Tr):Prop where
 ext:X.Ext X'
 ok:zK X'
 hj:j<=ix.length
 hat:at_<=ids.length
 hkn:kn<=at_
 nl:nids.length=kn
 eqp:zH (fits L) ts=new++zH (fits L) (ts.drop at_)
 rem:qR (fun x y=>yt x y L) at_ ((ts.drop at_).map Tr.key)=ix.drop j
 den:DenL X'.S nids new
 i:Arr C ci fI nids ids at_
 kk:Arr K ck fU (new.map Tr.key) (ts.map Tr.key) at_
 size:X'.S.list.length+kn<=X.S.list.length+at_
structure PNext (X:Px) (L:Nat) (ts:List Tr) (ids ix:List Nat) (j at_ i m a b:Nat) (x y:Tr):Prop where
 him:i=at_+m
 hin:i+2<=ids.length
 ia:ids[i]?=some a
 ib:ids[i+1]?=some b
 da:Den X.S a x
 db:Den X.S b y
 len:x.len+y.len<=xe ts
 rem:qR (fun x y=>yt x y L) (i+2) ((ts.drop (i+2)).map Tr.key)=ix.drop (j+1)
 eqp:zH (fits L) (ts.drop at_)=(ts.drop at_).take m ++ .pair x y::zH (fits L) (ts.drop (i+2))
theorem PairsIn.next {X X':Px} {L:Nat} {ts:List Tr} {ids ix:List Nat} {j at_ kn i:Nat} {C K:Array Value} {ci ck:Nat} {nids:List Nat} {new:List Tr} (h:PairsIn X X' L ts ids ix j at_ kn C K ci ck nids new) (hq:DenL X.S ids ts) (hj:ix[j]?=some i):∃ m a b x y,PNext X L ts ids ix j at_ i m a b x y:=by
 have e0:ix.drop j=i::ix.drop (j+1):=by
  have:=yj (l:=ix) (i:=j) (yE hj);rw [this];congr 1
  exact (xB.1 hj).2
 obtain ⟨A,x,y,r,e1,e2,e3,e4⟩:=Xm (F:=fits L) (fun x y=>rfl) _ _ _ _ (h.rem.trans e0);have hl:=hq.len;have hdl:=congrArg ym e1;simp only [qC,zi,zw] at hdl;have hx:ts[i]?=some x:=by
  have:(ts.drop at_)[A.length]?=some x:=by rw [e1,yd (zr _),QL];rfl
  rw [yh] at this;rw [e2];exact this
 have hy:ts[i+1]?=some y:=by
  have:(ts.drop at_)[A.length+1]?=some y:=by rw [e1,yd (by omega),show A.length+1-A.length=1 by omega];rfl
  rw [yh] at this;rw [e2,wA];exact this
 have hr:r=ts.drop (i+2):=by
  have:(ts.drop at_).drop (A.length+2)=r:=by
   rw [e1,show A.length+2=A.length+1+1 by omega,← Jf,← Jf,List.drop_left];rfl
  rw [← this,Jf];congr 1;omega
 obtain ⟨a,ha⟩:∃ a,ids[i]?=some a:=⟨_,zg (by omega)⟩
 obtain ⟨b,hb⟩:∃ b,ids[i+1]?=some b:=⟨_,zg (by omega)⟩
 obtain ⟨x',hx',da⟩:=hq.get ha;obtain ⟨y',hy',db⟩:=hq.get hb;rw [hx] at hx';rw [hy] at hy';injection hx' with hx'
 injection hy' with hy'
 subst hx' hy';refine ⟨A.length,a,b,x,y,e2,by omega,ha,hb,da,db,?_,by rw [← hr];exact e3.symm,?_⟩
 ·have e5:xe ts=xe (ts.take at_)+xe (ts.drop at_):=(by rw [← yx,List.take_append_drop]);rw [e1,yx,yB,yB] at e5;omega
 ·rw [e4,e1,List.take_left,← hr]
theorem PairsIn.start {X:Px} {L:Nat} {ts:List Tr} {ids:List Nat} {C K:Array Value} {ci ck:Nat} (hX:zK X) (h:W0 X C K ci ck ids ts):PairsIn X X L ts ids (qR (fun x y=>yt x y L) 0 (ts.map Tr.key)) 0 0 0 C K ci ck [] [] :=
 ⟨.refl _,hX,qy _,qy _,zr _,rfl,rfl,rfl,trivial,h.i.start,h.k.start,zr _⟩
theorem PairsIn.step {X X1 X2:Px} {L:Nat} {ts:List Tr} {ids ix:List Nat} {j at_ kn i m a b id ky:Nat} {C K:Array Value} {ci ck:Nat} {nids:List Nat} {new:List Tr} {x y:Tr} (h:PairsIn X X1 L ts ids ix j at_ kn C K ci ck nids new) (hq:DenL X.S ids ts) (hX:X.S.Ok) (hn:PNext X L ts ids ix j at_ i m a b x y) (hj:ix[j]?=some i) (ext:X1.Ext X2) (ok:zK X2) (hid:Den X2.S id (.pair x y)) (hky:(Tr.pair x y).key=ky) (hsz:X2.S.list.length<=X1.S.list.length+1) (hci:ids.length<=ci) (hck:ids.length<=ck) :
  PairsIn X X2 L ts ids ix (j+1) (i+2) (kn+m+1) (xK (xK C kn (((ids.drop at_).take m).map fI)) (kn+m) [.int .i64 id]) (xK (xK K kn ((((ts.map Tr.key).drop at_).take m).map fU)) (kn+m) [.int .u64 ky]) ci ck (nids++(ids.drop at_).take m++[id]) (new++(ts.drop at_).take m++[.pair x y]):=by
 have hl:=hq.len;have hkn:=h.hkn;have hat:=h.hat;have him:=hn.him;have hin:=hn.hin;have hml:((ids.drop at_).take m).length=m:=(by rw [qg,qC];omega);have hmk:(((ts.map Tr.key).drop at_).take m).length=m:=(by rw [qg,qC,qd];omega);have hnew:new.length=kn:=(by rw [← h.den.len,h.nl]);have hnk:(new.map Tr.key).length=kn:=(by rw [qd,hnew]);refine ⟨h.ext.trans ext,ok,yE hj,hin,by omega,by rw [zi,zi,hml,h.nl];rfl,?_,hn.rem,?_,?_,?_,?_⟩
 ·rw [h.eqp,hn.eqp];simp
 ·exact ((h.den.le h.ok.ok ext.le).append (((hq.le hX (h.ext.trans ext).le).drop at_).take m)).append ⟨hid,trivial⟩
 ·have h1:=h.i.app ((ids.drop at_).take m) (a':=i) (by omega) (by rw [hml,h.nl];omega) (by rw [hml,h.nl];omega);rw [h.nl] at h1;have h2:=h1.app [id] (a':=i+2) (by omega) (by simp [hml,h.nl];omega) (by simp [hml,h.nl];omega);rw [zi,hml,h.nl] at h2;exact h2
 ·have h1:=h.kk.app (((ts.map Tr.key).drop at_).take m) (a':=i) (by omega) (by rw [hmk,hnk];omega) (by rw [hmk,hnk];omega);rw [hnk] at h1;have h2:=h1.app [ky] (a':=i+2) (by omega) (by rw [zi,hmk,hnk];simp;omega) (by rw [zi,hmk,hnk];simp;omega);rw [zi,hmk,hnk] at h2;have e7:(new++(ts.drop at_).take m++[Tr.pair x y]).map Tr.key=new.map Tr.key++((ts.map Tr.key).drop at_).take m++[ky]:=by
   simp only [xH,zX,ye,hky,List.map_take,List.map_drop]
  rw [e7];exact h2
 ·have:=h.size;omega
end
section
open Go.RowKit Go.Maps
attribute [local go_sem] qt
def PairsRel (X:Px) (L:Nat) (ts:List Tr) (ids ix:List Nat) (gi gk ci ck b3 b4 b8 n nx cp:Nat) (ad:Option Addr) (M:List Nat) (w:World) (v9 v27:Value) (wr:World):Prop :=
 ∃ (X':Px) (j at_ kn:Nat) (CI CK:Array Value) (nids:List Nat) (new:List Tr),v9=.int .i64 at_∧v27=.int .i64 j∧PairsIn X X' L ts ids ix j at_ kn CI CK ci ck nids new ∧
  St w M [pA X',blk gi (.cells (CI) 26),blk gk (.cells (CK) 74),blk b3 (.cells #[.slice (some ⟨gi,0,none⟩) n ci,.slice (some ⟨gk,0,none⟩) n ck] 122),blk b4 (.cells #[.slice none 0 0,.slice none 0 0] 122),blk b8 (.cells #[.slice (some ⟨gi,0,none⟩) kn ci,.slice (some ⟨gk,0,none⟩) kn ck] 122),zc qE 3 1 (.slice ad nx cp) ix] wr
structure Hid2 (p q:Prop):Prop where
 out1:p
 out2:q
theorem PairsIn.mid {X X1:Px} {L:Nat} {ts:List Tr} {ids ix:List Nat} {j at_ kn i m a b:Nat} {C K:Array Value} {ci ck:Nat} {nids:List Nat} {new:List Tr} {x y:Tr} (h:PairsIn X X1 L ts ids ix j at_ kn C K ci ck nids new) (hq:DenL X.S ids ts) (hn:PNext X L ts ids ix j at_ i m a b x y) (hci:ids.length<=ci) (hck:ids.length<=ck) :
  Arr (xK C kn (((ids.drop at_).take m).map fI)) ci fI (nids++(ids.drop at_).take m) ids i∧Arr (xK K kn ((((ts.map Tr.key).drop at_).take m).map fU)) ck fU (new.map Tr.key++((ts.map Tr.key).drop at_).take m) (ts.map Tr.key) i:=by
 have hl:=hq.len;have hkn:=h.hkn;have hat:=h.hat;have him:=hn.him;have hin:=hn.hin;have hml:((ids.drop at_).take m).length=m:=(by rw [qg,qC];omega);have hmk:(((ts.map Tr.key).drop at_).take m).length=m:=(by rw [qg,qC,qd];omega);have hnew:new.length=kn:=(by rw [← h.den.len,h.nl]);have hnk:(new.map Tr.key).length=kn:=(by rw [qd,hnew]);constructor
 ·have h1:=h.i.app ((ids.drop at_).take m) (a':=i) (by omega) (by rw [hml,h.nl];omega) (by rw [hml,h.nl];omega);rwa [h.nl] at h1
 ·have h1:=h.kk.app (((ts.map Tr.key).drop at_).take m) (a':=i) (by omega) (by rw [hmk,hnk];omega) (by rw [hmk,hnk];omega);rwa [hnk] at h1
theorem PairsIn.short {X X1:Px} {L:Nat} {ts:List Tr} {ids ix:List Nat} {j at_ kn i m a b:Nat} {C K:Array Value} {ci ck:Nat} {nids:List Nat} {new:List Tr} {x y:Tr} (h:PairsIn X X1 L ts ids ix j at_ kn C K ci ck nids new) (hq:DenL X.S ids ts) (hn:PNext X L ts ids ix j at_ i m a b x y):X1.S.list.length+(zH (fits L) ts).length<X.S.list.length+ids.length:=by
 have hl:=hq.len;have h1:=h.size;have hnew:new.length=kn:=(by rw [← h.den.len,h.nl]);have h2:=Q3 (fits L) (ts.drop (i+2));have him:=hn.him;have hin:=hn.hin;rw [h.eqp,hn.eqp];simp only [zi,zw,qg,qC] at h2 ⊢;omega
theorem PairsIn.last {X X1:Px} {L:Nat} {ts:List Tr} {ids ix:List Nat} {j at_ kn m:Nat} {C K:Array Value} {ci ck:Nat} {nids:List Nat} {new:List Tr} (h:PairsIn X X1 L ts ids ix j at_ kn C K ci ck nids new) (hq:DenL X.S ids ts) (hX:X.S.Ok) (hj:j=ix.length) (hm:ids.length=at_+m) (hci:ids.length<=ci) (hck:ids.length<=ck) :
  W0 X1 (xK C kn (((ids.drop at_).take m).map fI)) (xK K kn ((((ts.map Tr.key).drop at_).take m).map fU)) ci ck (nids++(ids.drop at_).take m) (zH (fits L) ts)∧(zH (fits L) ts).length=kn+m∧X1.S.list.length+(kn+m)<=X.S.list.length+ids.length:=by
 have hl:=hq.len;have hkn:=h.hkn;have hml:((ids.drop at_).take m).length=m:=(by rw [qg,qC];omega);have hmk:(((ts.map Tr.key).drop at_).take m).length=m:=(by rw [qg,qC,qd];omega);have hnew:new.length=kn:=(by rw [← h.den.len,h.nl]);have hnk:(new.map Tr.key).length=kn:=(by rw [qd,hnew]);have hrem:=h.rem;rw [hj,List.drop_length] at hrem;have e:=h.eqp;rw [Xl (F:=fits L) (fun x y=>rfl) _ _ hrem] at e;have et:(ts.drop at_).take m=ts.drop at_:=qp (by rw [qC];omega);have hsz:=h.size;refine ⟨⟨?_,?_,?_⟩,?_,by omega⟩
 ·rw [e,← et];exact h.den.append (((hq.le hX h.ext.le).drop at_).take m)
 ·have h1:=h.i.app ((ids.drop at_).take m) (a':=ids.length) (by omega) (by rw [hml,h.nl];omega) (by rw [hml,h.nl];omega);rw [h.nl] at h1;exact h1.forget
 ·have h1:=h.kk.app (((ts.map Tr.key).drop at_).take m) (a':=ids.length) (by omega) (by rw [hmk,hnk];omega) (by rw [hmk,hnk];omega);rw [hnk] at h1;have e7:(zH (fits L) ts).map Tr.key=new.map Tr.key++((ts.map Tr.key).drop at_).take m:=by
   rw [e,xH,← et,List.map_take,List.map_drop]
  rw [e7];exact h1.forget
 ·rw [e,zi,hnew,qC];omega
theorem pk_lt (ts:List Tr):∀ k∈ts.map Tr.key,k<2305843009213693951:=by
 intro k hk;obtain ⟨t,_,rfl⟩:=qY.1 hk;exact t.key_lt
attribute [local go_sem] StStep jw yM in
theorem pairs_p {X:Px} {gi gk ci ck L:Nat} {CI CK:Array Value} {ids:List Nat} {ts:List Tr} (hX:zK X) (hq:W0 X CI CK ci ck ids ts) (hL2:2<=L) (hL0:L%2=0) (hLt:L<1152921504606846976) (h1:1<=ids.length) (hlen:ids.length<=65536) (hml:xe ts<=yG) (w:World) (h:(((pA X).sep ((blk gi (.cells CI 26)).sep (blk gk (.cells CK 74)))).sep deA).ho w) :
  Calls zb 64 #[.pointer (some ⟨X.p,0,none⟩),.agg #[.slice (some ⟨gi,0,none⟩) ids.length ci,.slice (some ⟨gk,0,none⟩) ids.length ck],.int .i64 L] w (XB X gi gk ci ck ids.length (zH (fits L) ts) ((pA X).sep ((blk gi (.cells CI 26)).sep (blk gk (.cells CK 74)))).fp w):=by
 rw [qz] at h;obtain ⟨k1,k2,hd⟩:=h;have H:=St.one k1;have HK:Ks w ((pA X).sep ((blk gi (.cells CI 26)).sep (blk gk (.cells CK 74)))).fp [deA]:=⟨by simpa using k2,by simpa using fun b hb hm=>hd b hm hb⟩
 generalize ((pA X).sep ((blk gi (.cells CI 26)).sep (blk gk (.cells CK 74)))).fp=M at *;replace H:=H.sep;replace H:=(H.pick (.there .here)).sep;have hci:=hq.i.len;have hck:=hq.k.len;have hkl:(ts.map Tr.key).length=ids.length:=(by rw [qd,← hq.den.len]);rw [hkl] at hck;obtain ⟨ix,hix⟩:∃ ix,qR (fun x y=>yt x y L) 0 (ts.map Tr.key)=ix:=⟨_,rfl⟩
 have HRU:Hid (∀ w,(blk gk (.cells CK 74)).ho w->Calls zb 99 #[.slice (some ⟨gk,0,none⟩) ids.length ck,.int .i64 L] w fun e w'=>∃ ad cp,e=.returned (.slice ad ix.length cp)∧St w [] [zc qE 3 1 (.slice ad ix.length cp) ix] w'):=zh fun w h=>by
  have:=pairs_c hL2 hL0 hLt (arr_row (g:=gk) (cap:=ck) (enc:=encU) (by rw [hkl];unfold maxLen;omega)) (pk_lt ts) (by rw [hkl];exact hlen) (by rw [hkl];exact h1) w (V2 (enc:=encU) (fun _=>rfl) h hq.k);rw [hkl,hix] at this;exact this
 have HSTART:Hid (PairsIn X X L ts ids ix 0 0 0 CI CK ci ck [] []):=zh (by rw [← hix];exact PairsIn.start hX hq);have HXL:Hid (ix.length<=ids.length):=zh (by rw [← hix,← hkl];exact Zf _ _ _);have HQ:=zh hq;have HPX:=zh hX;have HML:=zh hml;obtain ⟨n,hn⟩:∃ n,ids.length=n:=⟨_,rfl⟩
 have HN:=zh hn;obtain ⟨nx,hnx⟩:∃ nx,ix.length=nx:=⟨_,rfl⟩
 have HNX:=zh hnx;rw [hn] at hlen h1 hci hck HRU HXL ⊢;rw [hnx] at HRU HXL;have hxl:=HXL.out;clear k1 k2 hd hq hX hml hn hix hkl hL2 hL0 hLt hnx;go_enter Tryz.func64,Tryz.ntmps64;go_wp2_with (first|refine sL ?_|(refine sS ?_;clear H;intros;rename_i H));refine zG H 8 [(7,122,#[.slice none 0 0,.slice none 0 0],none)] [(7,8)] (by kernel_rfl) (by kernel_rfl) ?_;apply Exists.intro;refine ⟨fun w1 hw1 HX=>?_,fun bs wr Hr=>?_⟩
 ·refine sG ?_;repeat (first|refine sQ ?_|fail|go_big_quiet_step (fail))
  apply wpQuiet_nil;first|refine ⟨jC rfl rfl hw1 rfl rfl,?_⟩|refine ⟨fstep_slice1 rfl rfl rfl rfl rfl rfl rfl rfl rfl hw1,?_⟩
  simp only [Act.put,puA,puB,puC];repeat (first|refine sQ ?_|fail|go_big_quiet_step (fail))
  exact wpQuiet_nil rfl
 clear H;have H:=Hr;clear Hr;replace H:=sH H;refine sT ?_;go_wp2_with (first|refine sL ?_|(refine sS ?_;clear H;intros;rename_i H)|(go_at_call 99;with_reducible refine zm (HRU.out _ (H.get pk)) ?_;rintro e wc ⟨ad,cp,rfl,hb⟩;replace H:=zn (H.call0 hb);clear hb));rename_i b3 _ b4 _ _ _ _;obtain ⟨b8,hb8⟩:∃ b8,bs 7=b8:=⟨_,rfl⟩
 simp only [hb8] at H ⊢;clear hb8
 go_loopw [9,27] (fun v9 v27 wr=>PairsRel X L ts ids ix gi gk ci ck b3 b4 b8 n nx cp ad M w v9 v27 wr) (fun _ v27 _=>nx-(intOf v27).toNat)
 case atStart=>exact ⟨X,0,0,0,CI,CK,[],[],rfl,rfl,HSTART.out,H.picks (.cons pk (.cons pk (.cons pk (.cons pk (.cons pk (.cons pk (.cons pk .nil)))))))⟩
 case round =>
  clear H;obtain ⟨X1,j,at_,kn,C1,K1,nids,new,rfl,rfl,hin,H⟩:=hrel;have hjl:=hin.hj;rw [HNX.out] at hjl;have hat:=hin.hat;rw [HN.out] at hat;have hkn:=hin.hkn;have HIN:=zh hin;have HSI:=zh hin.i.size;have HSK:=zh hin.kk.size;have HTL:Hid ((ts.map Tr.key).length=n):=zh (by rw [qd,← HQ.out.den.len,HN.out]);obtain ⟨oi,hoi⟩:∃ o,o=if ci=at_ then 0 else at_:=⟨_,rfl⟩
  obtain ⟨ok,hok⟩:∃ o,o=if ck=at_ then 0 else at_:=⟨_,rfl⟩
  obtain ⟨cri,hcri⟩:∃ o,ci-at_=o:=⟨_,rfl⟩
  obtain ⟨crk,hcrk⟩:∃ o,ck-at_=o:=⟨_,rfl⟩
  have HOI:=zh hoi;have HOK:=zh hok;have HCRI:=zh hcri;have HCRK:=zh hcrk;clear hin hoi hok hcri hcrk;by_cases hlt:j<nx
  ·obtain ⟨i,hij⟩:∃ i,ix[j]?=some i:=⟨_,zg (by rw [HNX.out];exact hlt)⟩
   obtain ⟨m,a,b,x,y,hnx⟩:=HIN.out.next HQ.out.den hij
   have HNXT:=zh hnx;have HIX:=zh hij;have hin2:=hnx.hin;have him:=hnx.him;rw [HN.out] at hin2;obtain ⟨gx,cgx,e9,_,_⟩:=q8 (H.get (A:=zc qE 3 1 (.slice ad nx cp) ix) pk) (by rw [HNX.out];omega);injection e9 with e9 e7 e8
   clear e7;subst e9;subst e8;have HIM:=zh him;have H2CI:Hid2 (i<=ci) (i<=ck):=⟨by omega,by omega⟩
   have HRM:Hid2 (kn+m<=ci) (kn+m<=ck):=⟨by omega,by omega⟩
   have hml1:((ids.drop at_).take m).length=m:=(by rw [qg,qC,HN.out];omega);have hml2:(((ts.map Tr.key).drop at_).take m).length=m:=(by rw [qg,qC,HTL.out];omega);have HLI:Hid ((((ids.drop at_).take m).map fI).length=m):=zh (by rw [qd,hml1]);have HLK:Hid (((((ts.map Tr.key).drop at_).take m).map fU).length=m):=zh (by rw [qd,hml2]);have HLTI:Hid (m≠0->at_<ci):=zh fun h=>by omega
   have HLTK:Hid (m≠0->at_<ck):=zh fun h=>by omega
   have HMI:Hid (at_+m<=ids.length):=zh (by rw [HN.out];omega);have HMK2:Hid (at_+m<=(ts.map Tr.key).length):=zh (by rw [HTL.out];omega);have hiL:i+2<=n:=hin2;have hka:kn+m+2<=n:=(by omega);clear hij hnx him hml1 hml2 hin2;go_wp2_with (first|refine sL ?_|(refine sS ?_;clear H;intros;rename_i H)|((with_reducible refine qh ?_);refine AtLoad.cel rfl rfl rfl rfl (Xq (H.get (A:=zc qE 3 1 (.slice (some ⟨gx,0,none⟩) nx cp) ix) pk) ya HIX.out rfl) ?_;simp only [Act.put,puA,puB,puC]));replace H:St w M [blk gi (.cells (C1) 26),pA X1,blk gk (.cells (K1) 74),blk b3 (.cells #[.slice (some ⟨gi,0,none⟩) n ci,.slice (some ⟨gk,0,none⟩) n ck] 122),blk b4 (.cells #[.slice none 0 0,.slice none 0 0] 122),blk b8 (.cells #[.slice (some ⟨gi,0,none⟩) kn ci,.slice (some ⟨gk,0,none⟩) kn ck] 122),zc qE 3 1 (.slice (some ⟨gx,0,none⟩) nx cp) ix] _:=H.picks (.cons pk (.cons pk (.cons pk (.cons pk (.cons pk (.cons pk (.cons pk .nil)))))));refine zM 8 [⟨[],fun v _=>v=.pointer (some ⟨b8,0,none⟩)⟩,⟨[0],fun v _=>v=.slice (some ⟨gi,0,none⟩) kn ci⟩,⟨[],fun v _=>v=.pointer (some ⟨b3,0,none⟩)⟩,⟨[2],fun v _=>v=.slice (some ⟨gi,0,none⟩) n ci⟩,⟨[],fun v _=>v=.int .i64 at_⟩,⟨[],fun v _=>v=.int .i64 i⟩,⟨[3,4,5],fun v _=>v=.slice (some ⟨gi,oi,none⟩) m cri⟩,⟨[1,6],fun v _=>v=.slice (some ⟨gi,0,none⟩) (kn+m) ci⟩] [7] [[0],[0],[0],[0],[0],[0],[0],[0]] [fun _ wx=>St w M [blk gi (.cells (C1) 26),pA X1,blk gk (.cells (K1) 74),blk b3 (.cells #[.slice (some ⟨gi,0,none⟩) n ci,.slice (some ⟨gk,0,none⟩) n ck] 122),blk b4 (.cells #[.slice none 0 0,.slice none 0 0] 122),blk b8 (.cells #[.slice (some ⟨gi,0,none⟩) kn ci,.slice (some ⟨gk,0,none⟩) kn ck] 122),zc qE 3 1 (.slice (some ⟨gx,0,none⟩) nx cp) ix] wx,fun vals wx=>St w M [blk gi (.cells (xK C1 kn (((ids.drop at_).take m).map fI)) 26),pA X1,blk gk (.cells (K1) 74),blk b3 (.cells #[.slice (some ⟨gi,0,none⟩) n ci,.slice (some ⟨gk,0,none⟩) n ck] 122),blk b4 (.cells #[.slice none 0 0,.slice none 0 0] 122),blk b8 (.cells #[.slice (some ⟨gi,0,none⟩) kn ci,.slice (some ⟨gk,0,none⟩) kn ck] 122),zc qE 3 1 (.slice (some ⟨gx,0,none⟩) nx cp) ix] wx]
    [[],[(0,31)],[],[(2,33)],[],[],[(3,34),(4,35),(5,36)],[(1,32),(6,37)]] [(0,31),(1,32),(2,33),(3,34),(4,35),(5,36),(6,37),(7,38)] (by kernel_rfl) (by kernel_rfl) H.drew ⟨⟨qo,trivial⟩,⟨ql,trivial⟩,⟨qo,trivial⟩,⟨ql,trivial⟩,⟨qo,trivial⟩,⟨qo,trivial⟩,⟨?_,trivial⟩,⟨?_,trivial⟩,trivial⟩ ?_
   ·intro vals wx hd HC;simp only [GF] at hd;have H:=HC;simp only [CA] at H;simp only [PS,hd];refine StStep.seg rfl rfl rfl rfl rfl rfl rfl H2CI.out1 (m:=m) (cr:=cri) HIM.out HCRI.out HOI.out ⟨rfl,HC⟩
   ·intro vals wx hd HC;simp only [GF] at hd;have H:=HC;simp only [CA] at H;simp only [PS,hd];clear HC;refine StStep.room rfl rfl rfl rfl rfl rfl H (((ids.drop at_).take m).map fI) HLI.out (XP (H.at pk) HIN.out.i (zr _) HOI.out HLTI.out HMI.out) (by intro u hu;obtain ⟨x,_,rfl⟩:=qY.1 hu;rfl) HRM.out1 HSI.out ?_;intro wz H;exact ⟨rfl,H⟩
   intro vals wx hd HC;simp only [CA] at HC;have H:=HC;clear HC;simp only [GF] at hd;simp only [PS,hd];clear hd;go_wp2_with (first|refine sL ?_|(refine sS ?_;clear H;intros;rename_i H));obtain ⟨Ca,hca⟩:∃ c,xK C1 kn (((ids.drop at_).take m).map fI)=c:=⟨_,rfl⟩
   rw [hca] at H;have HCAE:=zh hca;clear hca;replace H:St w M [blk gk (.cells (K1) 74),pA X1,blk gi (.cells (Ca) 26),blk b3 (.cells #[.slice (some ⟨gi,0,none⟩) n ci,.slice (some ⟨gk,0,none⟩) n ck] 122),blk b4 (.cells #[.slice none 0 0,.slice none 0 0] 122),blk b8 (.cells #[.slice (some ⟨gi,0,none⟩) (kn+m) ci,.slice (some ⟨gk,0,none⟩) kn ck] 122),zc qE 3 1 (.slice (some ⟨gx,0,none⟩) nx cp) ix] _:=H.picks (.cons pk (.cons pk (.cons pk (.cons pk (.cons pk (.cons pk (.cons pk .nil)))))));refine zM 8 [⟨[],fun v _=>v=.pointer (some ⟨b8,1,none⟩)⟩,⟨[0],fun v _=>v=.slice (some ⟨gk,0,none⟩) kn ck⟩,⟨[],fun v _=>v=.pointer (some ⟨b3,1,none⟩)⟩,⟨[2],fun v _=>v=.slice (some ⟨gk,0,none⟩) n ck⟩,⟨[],fun v _=>v=.int .i64 at_⟩,⟨[],fun v _=>v=.int .i64 i⟩,⟨[3,4,5],fun v _=>v=.slice (some ⟨gk,ok,none⟩) m crk⟩,⟨[1,6],fun v _=>v=.slice (some ⟨gk,0,none⟩) (kn+m) ck⟩] [7] [[0],[0],[0],[0],[0],[0],[0],[0]] [fun _ wx=>St w M [blk gk (.cells (K1) 74),pA X1,blk gi (.cells (Ca) 26),blk b3 (.cells #[.slice (some ⟨gi,0,none⟩) n ci,.slice (some ⟨gk,0,none⟩) n ck] 122),blk b4 (.cells #[.slice none 0 0,.slice none 0 0] 122),blk b8 (.cells #[.slice (some ⟨gi,0,none⟩) (kn+m) ci,.slice (some ⟨gk,0,none⟩) kn ck] 122),zc qE 3 1 (.slice (some ⟨gx,0,none⟩) nx cp) ix] wx,fun vals wx=>St w M [blk gk (.cells (xK K1 kn ((((ts.map Tr.key).drop at_).take m).map fU)) 74),pA X1,blk gi (.cells (Ca) 26),blk b3 (.cells #[.slice (some ⟨gi,0,none⟩) n ci,.slice (some ⟨gk,0,none⟩) n ck] 122),blk b4 (.cells #[.slice none 0 0,.slice none 0 0] 122),blk b8 (.cells #[.slice (some ⟨gi,0,none⟩) (kn+m) ci,.slice (some ⟨gk,0,none⟩) kn ck] 122),zc qE 3 1 (.slice (some ⟨gx,0,none⟩) nx cp) ix] wx]
    [[],[(0,40)],[],[(2,42)],[],[],[(3,43),(4,44),(5,45)],[(1,41),(6,46)]] [(0,40),(1,41),(2,42),(3,43),(4,44),(5,45),(6,46),(7,47)] (by kernel_rfl) (by kernel_rfl) H.drew ⟨⟨qo,trivial⟩,⟨ql,trivial⟩,⟨qo,trivial⟩,⟨ql,trivial⟩,⟨qo,trivial⟩,⟨qo,trivial⟩,⟨?_,trivial⟩,⟨?_,trivial⟩,trivial⟩ ?_
   ·intro vals wx hd HC;simp only [GF] at hd;have H:=HC;simp only [CA] at H;simp only [PS,hd];refine StStep.seg rfl rfl rfl rfl rfl rfl rfl H2CI.out2 (m:=m) (cr:=crk) HIM.out HCRK.out HOK.out ⟨rfl,HC⟩
   ·intro vals wx hd HC;simp only [GF] at hd;have H:=HC;simp only [CA] at H;simp only [PS,hd];clear HC;refine StStep.room rfl rfl rfl rfl rfl rfl H ((((ts.map Tr.key).drop at_).take m).map fU) HLK.out (XP (H.at pk) HIN.out.kk (zr _) HOK.out HLTK.out HMK2.out) (by intro u hu;obtain ⟨x,_,rfl⟩:=qY.1 hu;rfl) HRM.out2 HSK.out ?_;intro wz H;exact ⟨rfl,H⟩
   intro vals wx hd HC;simp only [CA] at HC;have H:=HC;clear HC;simp only [GF] at hd;simp only [PS,hd];clear hd;go_wp2_with (first|refine sL ?_|(refine sS ?_;clear H;intros;rename_i H));obtain ⟨Ka,hka9⟩:∃ c,xK K1 kn ((((ts.map Tr.key).drop at_).take m).map fU)=c:=⟨_,rfl⟩
   rw [hka9] at H;have HKAE:=zh hka9;clear hka9;have hmid:=HIN.out.mid HQ.out.den HNXT.out (by rw [HN.out];exact hci) (by rw [HN.out];exact hck);rw [HCAE.out,HKAE.out] at hmid;have HA2:=zh hmid.1;have HSI2:=zh hmid.1.size;have HSK2:=zh hmid.2.size;have HCA:Hid (∀ w,(blk gi (.cells (Ca) 26)).ho w->w.cell? ⟨gi,i,none⟩=some (.int .i64 a)):=zh fun w h=>zV h (HA2.out.od i a (zr _) HNXT.out.ia)
   have HCB:Hid (∀ w,(blk gi (.cells (Ca) 26)).ho w->w.cell? ⟨gi,i+1,none⟩=some (.int .i64 b)):=zh fun w h=>zV h (HA2.out.od (i+1) b (Nat.le_succ _) HNXT.out.ib)
   clear hmid;have HC0:Hid (∀ w,(pA X1).ho w->w.cell? ⟨X.p,0,none⟩=some (.pointer (some ⟨X1.s,0,none⟩))):=zh fun w h=>by have:=Xk h;rwa [HIN.out.ext.p] at this
   have HPW:Hid (∀ w,(pA X1).ho w->Calls zb 43 #[.pointer (some ⟨X1.s,0,none⟩),.int .i64 a,.int .i64 b] w (QH X1 (.pair x y) (pA X1).fp w)):=zh fun w h=>WA (HNXT.out.da.le HPX.out.ok HIN.out.ext.le) (HNXT.out.db.le HPX.out.ok HIN.out.ext.le) (qs HNXT.out.len HML.out) HIN.out.ok w h
   replace H:St w M [pA X1,blk gi (.cells (Ca) 26),blk gk (.cells (Ka) 74),blk b3 (.cells #[.slice (some ⟨gi,0,none⟩) n ci,.slice (some ⟨gk,0,none⟩) n ck] 122),blk b4 (.cells #[.slice none 0 0,.slice none 0 0] 122),blk b8 (.cells #[.slice (some ⟨gi,0,none⟩) (kn+m) ci,.slice (some ⟨gk,0,none⟩) (kn+m) ck] 122),zc qE 3 1 (.slice (some ⟨gx,0,none⟩) nx cp) ix] _:=H.picks (.cons pk (.cons pk (.cons pk (.cons pk (.cons pk (.cons pk (.cons pk .nil)))))));refine zM 21 [⟨[],fun v _=>v=.pointer (some ⟨X.p,0,none⟩)⟩,⟨[0],fun v _=>v=.pointer (some ⟨X.p,0,none⟩)⟩,⟨[1],fun v _=>v=.pointer (some ⟨X.p,0,none⟩)⟩,⟨[2],fun v _=>v=.pointer (some ⟨X1.s,0,none⟩)⟩,⟨[],fun v _=>v=.pointer (some ⟨b3,0,none⟩)⟩,⟨[4],fun v _=>v=.slice (some ⟨gi,0,none⟩) n ci⟩,⟨[],fun v _=>v=.int .i64 i⟩,⟨[5,6],fun v _=>v=.pointer (some ⟨gi,i,none⟩)⟩,⟨[7],fun v _=>v=.int .i64 a⟩,⟨[],fun v _=>v=.pointer (some ⟨b3,0,none⟩)⟩,⟨[9],fun v _=>v=.slice (some ⟨gi,0,none⟩) n ci⟩,⟨[],fun v _=>v=.int .i64 i⟩,⟨[11],fun v _=>v=.int .i64 ((i:Int)+1)⟩,⟨[10,12],fun v _=>v=.pointer (some ⟨gi,i+1,none⟩)⟩,⟨[13],fun v _=>v=.int .i64 b⟩,⟨[3,8,14],fun v _=>∃ (id:Nat) (c:Option Nat),v=.tuple #[.int .i64 id,wI c]⟩,⟨[15],fun v ds=>ds=[v]⟩,⟨[16],fun v ds=>∃ (id:Nat) (c:Option Nat),ds=[.tuple #[.int .i64 id,wI c]]∧v=.int .i64 id⟩,⟨[16],fun v ds=>∃ (id:Nat) (c:Option Nat),ds=[.tuple #[.int .i64 id,wI c]]∧v=wI c⟩,⟨[17],fun v ds=>ds=[v]⟩,⟨[18],fun v ds=>ds=[v]⟩] [15] [[0],[0],[0],[0],[0],[0],[0],[0],[0],[0],[0],[0],[0],[0],[0],[0],[1],[1],[1],[1],[1]] [fun _ wx=>St w M [pA X1,blk gi (.cells (Ca) 26),blk gk (.cells (Ka) 74),blk b3 (.cells #[.slice (some ⟨gi,0,none⟩) n ci,.slice (some ⟨gk,0,none⟩) n ck] 122),blk b4 (.cells #[.slice none 0 0,.slice none 0 0] 122),blk b8 (.cells #[.slice (some ⟨gi,0,none⟩) (kn+m) ci,.slice (some ⟨gk,0,none⟩) (kn+m) ck] 122),zc qE 3 1 (.slice (some ⟨gx,0,none⟩) nx cp) ix] wx,fun vals wx=>∃ (X2:Px) (id:Nat) (c:Option Nat),vals 15=.tuple #[.int .i64 id,wI c]∧MkFact X1 X2 (.pair x y) id c∧St w M [pA X2,blk gi (.cells (Ca) 26),blk gk (.cells (Ka) 74),blk b3 (.cells #[.slice (some ⟨gi,0,none⟩) n ci,.slice (some ⟨gk,0,none⟩) n ck] 122),blk b4 (.cells #[.slice none 0 0,.slice none 0 0] 122),blk b8 (.cells #[.slice (some ⟨gi,0,none⟩) (kn+m) ci,.slice (some ⟨gk,0,none⟩) (kn+m) ck] 122),zc qE 3 1 (.slice (some ⟨gx,0,none⟩) nx cp) ix] wx]
    [[],[(0,50)],[(1,51)],[(2,52)],[],[(4,54)],[],[(5,55),(6,56)],[(7,57)],[],[(9,59)],[],[(11,61)],[(10,60),(12,62)],[(13,63)],[(3,53),(8,58),(14,64)],[(15,65)],[(16,49)],[(16,49)],[(17,66)],[(18,67)]] [(0,50),(1,51),(2,52),(3,53),(4,54),(5,55),(6,56),(7,57),(8,58),(9,59),(10,60),(11,61),(12,62),(13,63),(14,64),(15,65),(16,49),(17,66),(18,67),(19,12),(20,13)] (by kernel_rfl) (by kernel_rfl) H.drew ⟨⟨qo,trivial⟩,⟨qo,trivial⟩,⟨qo,trivial⟩,⟨ql,trivial⟩,⟨qo,trivial⟩,⟨ql,trivial⟩,⟨qo,trivial⟩,⟨?_,trivial⟩,⟨ql,trivial⟩,⟨qo,trivial⟩,⟨ql,trivial⟩,⟨qo,trivial⟩,⟨qo,trivial⟩,⟨?_,trivial⟩,⟨ql,trivial⟩,⟨?_,trivial⟩,⟨?_,trivial⟩,⟨?_,trivial⟩,⟨?_,trivial⟩,⟨?_,trivial⟩,⟨?_,trivial⟩,trivial⟩ ?_
   ·intro vals wx hd HC;simp only [GF] at hd;have H:=HC;simp only [CA] at H;simp only [PS,hd];go_simp;rw [if_pos (show i<n by omega)];exact ⟨rfl,HC⟩
   ·intro vals wx hd HC;simp only [GF] at hd;have H:=HC;simp only [CA] at H;simp only [PS,hd];go_simp;rw [if_pos (show (0:Int)<=(i:Int)+1∧(i:Int)+1<(n:Int) by omega)];exact ⟨rfl,HC⟩
   ·intro vals wx hd HC;simp only [GF] at hd;obtain ⟨h3,h8,h14⟩:=hd;have H:=HC;simp only [CA] at H;simp only [PS,h3,h8,h14];clear h3 h8 h14 HC;go_simp;with_reducible refine zm (HPW.out _ (H.get pk)) ?_
    rintro e wc ⟨X2,id,c,rfl,m1,m2,m3,m4,hb⟩;have H2:=(H.pick pk).call hb;exact ⟨_,rfl,⟨id,c,rfl⟩,X2,id,c,rfl,⟨m1,m2,m3,m4⟩,by simpa using H2⟩
   ·intro vals wx hd HC;simp only [GF] at hd;have h15:=hd;clear hd;have H:=HC;simp only [CA] at H;obtain ⟨X2,id,c,hv7,hmk,H⟩:=H;simp only [PS];clear h15;go_simp;first|exact HC|exact ⟨rfl,HC⟩
   ·intro vals wx hd HC;simp only [GF] at hd;have h16:=hd;clear hd;have H:=HC;simp only [CA] at H;obtain ⟨X2,id,c,hv7,hmk,H⟩:=H;simp only [PS];have e8:vals 16=.tuple #[.int .i64 id,wI c]:=(by rw [← hv7];exact X8 (show [vals 15]=[vals 16] from h16));simp only [e8];clear h16;go_simp;first|exact HC|exact ⟨⟨id,c,by simp [e8],rfl⟩,HC⟩|exact ⟨⟨id,rfl,c,rfl⟩,HC⟩|exact ⟨⟨c,⟨id,rfl⟩,rfl⟩,HC⟩|exact ⟨⟨id,c,rfl⟩,HC⟩|exact ⟨⟨id,⟨rfl,c,rfl⟩,rfl⟩,HC⟩|exact ⟨⟨⟨id,rfl⟩,c,rfl⟩,HC⟩|fail "Z9"
   ·intro vals wx hd HC;simp only [GF] at hd;have h16:=hd;clear hd;have H:=HC;simp only [CA] at H;obtain ⟨X2,id,c,hv7,hmk,H⟩:=H;simp only [PS];have e8:vals 16=.tuple #[.int .i64 id,wI c]:=(by rw [← hv7];exact X8 (show [vals 15]=[vals 16] from h16));simp only [e8];clear h16;go_simp;first|exact HC|exact ⟨⟨id,c,by simp [e8],rfl⟩,HC⟩|exact ⟨⟨id,rfl,c,rfl⟩,HC⟩|exact ⟨⟨c,⟨id,rfl⟩,rfl⟩,HC⟩|exact ⟨⟨id,c,rfl⟩,HC⟩|exact ⟨⟨id,⟨rfl,c,rfl⟩,rfl⟩,HC⟩|exact ⟨⟨⟨id,rfl⟩,c,rfl⟩,HC⟩|fail "Z9"
   ·intro vals wx hd HC;simp only [GF] at hd;have h17:=hd;clear hd;have H:=HC;simp only [CA] at H;obtain ⟨X2,id,c,hv7,hmk,H⟩:=H;simp only [PS];clear h17;go_simp;first|exact HC|exact ⟨rfl,HC⟩
   ·intro vals wx hd HC;simp only [GF] at hd;have h18:=hd;clear hd;have H:=HC;simp only [CA] at H;obtain ⟨X2,id,c,hv7,hmk,H⟩:=H;simp only [PS];clear h18;go_simp;first|exact HC|exact ⟨rfl,HC⟩
   intro vals wx hd HC;have h15:=hd.2.2.2.2.2.2.2.2.2.2.2.2.2.2.2.1;have h16:=hd.2.2.2.2.2.2.2.2.2.2.2.2.2.2.2.2.1;have h17:=hd.2.2.2.2.2.2.2.2.2.2.2.2.2.2.2.2.2.1;have h18:=hd.2.2.2.2.2.2.2.2.2.2.2.2.2.2.2.2.2.2.1;have h19:=hd.2.2.2.2.2.2.2.2.2.2.2.2.2.2.2.2.2.2.2.1;have h20:=hd.2.2.2.2.2.2.2.2.2.2.2.2.2.2.2.2.2.2.2.2.1;simp only [CA] at HC;obtain ⟨X2,id,c,hv7,hmk,H⟩:=HC;simp only [GF] at hd;simp only [PS,hd];clear hd;have e8:vals 16=.tuple #[.int .i64 id,wI c]:=(by rw [← hv7];exact X8 (show [vals 15]=[vals 16] from h16));have h9':∃ (i':Nat) (c':Option Nat),[vals 16]=[.tuple #[.int .i64 i',wI c']]∧vals 17=.int .i64 i':=h17;have h10':∃ (i':Nat) (c':Option Nat),[vals 16]=[.tuple #[.int .i64 i',wI c']]∧vals 18=wI c':=h18;have e9:vals 17=.int .i64 id:=by
    obtain ⟨i',c',e,e'⟩:=h9';rw [e8] at e;simp at e;rw [e'];simp [e.1]
   have e10:vals 18=wI c:=by
    obtain ⟨i',c',e,e'⟩:=h10';rw [e8] at e;simp at e;rw [e',e.2]
   have e11:vals 19=.int .i64 id:=(by rw [← e9];exact X8 (show [vals 17]=[vals 19] from h19));have e12:vals 20=wI c:=(by rw [← e10];exact X8 (show [vals 18]=[vals 20] from h20));simp only [hv7,e8,e9,e10,e11,e12];clear e8 e9 e10 e11 e12 h15 h16 h17 h18 h19 h20 hv7 h9' h10';have HMK:=zh hmk;obtain ⟨ky,hky⟩:∃ ky,(Tr.pair x y).key=ky:=⟨_,rfl⟩
   have HKY:=zh hky;rcases hmk.ans with ⟨rfl,hid⟩|⟨rfl,rfl,hs,hmost⟩
   ·have HID:=zh hid;have HAD:Hid (∀ w,((sqA X2 b8 gi gk ci ck (kn+m) Ca Ka).sep deA).ho w->Calls zb 96 #[.pointer (some ⟨X.p,0,none⟩),.pointer (some ⟨b8,0,none⟩),.int .i64 id] w (Kd X2 b8 gi gk ci ck (kn+m) Ca Ka id ky (sqA X2 b8 gi gk ci ck (kn+m) Ca Ka).fp w)):=zh fun w h=>by
     have:=add_p (k:=kn+m) HMK.out.ok HID.out HKY.out (by omega) (by omega) (by omega) HSI2.out HSK2.out w h;rwa [HMK.out.ext.p,HIN.out.ext.p] at this
    clear hmk hky hid;simp only [wI] at *;replace H:=WR (H.picks (L':=[pA X2,blk b8 (.cells #[.slice (some ⟨gi,0,none⟩) (kn+m) ci,.slice (some ⟨gk,0,none⟩) (kn+m) ck] 122),blk gi (.cells (Ca) 26),blk gk (.cells (Ka) 74),blk b3 (.cells #[.slice (some ⟨gi,0,none⟩) n ci,.slice (some ⟨gk,0,none⟩) n ck] 122),blk b4 (.cells #[.slice none 0 0,.slice none 0 0] 122),zc qE 3 1 (.slice (some ⟨gx,0,none⟩) nx cp) ix]) (.cons pk (.cons pk (.cons pk (.cons pk (.cons pk (.cons pk (.cons pk .nil))))))));go_wp2_with (first|refine sL ?_|(refine sS ?_;clear H;intros;rename_i H)|(go_at_call 96;with_reducible refine zm (HAD.out _ (H.sepK HK pk pk)) ?_;rintro e wc ⟨X3,y1,y2,y3,rfl,hb⟩;have HY:=zh (za y1 (za y2 y3));clear y1 y2 y3;replace H:=zn ((H.pick pk).call hb);clear hb;replace H:=WQ H));rw [← HCAE.out,← HKAE.out] at H;refine ⟨⟨X3,j+1,i+2,kn+m+1,_,_,_,_,by go_num,by go_num,HIN.out.step HQ.out.den HPX.out.ok HNXT.out HIX.out (HMK.out.ext.trans HY.out.1) HY.out.2.1 (by rw [HY.out.2.2];exact HID.out) HKY.out (by rw [HY.out.2.2];exact HMK.out.len) (by rw [HN.out];exact hci) (by rw [HN.out];exact hck),H.picks (.cons pk (.cons pk (.cons pk (.cons pk (.cons pk (.cons pk (.cons pk .nil)))))))⟩,by simp [intOf];omega⟩
   ·have HS:=zh hs;have HMO:=zh hmost;clear hs hmost hmk hky;simp only [wI,EV] at *;go_wp2_with (first|refine sL ?_|(refine sS ?_;clear H;intros;rename_i H));refine bodyPost_ret (xd rfl H rfl pk rfl rfl) rfl ?_;have hsh:=HIN.out.short HQ.out.den HNXT.out;rw [HN.out] at hsh;refine ⟨X2,_,_,HIN.out.ext.trans HMK.out.ext,HMK.out.ok,H.picks (.cons pk (.cons pk (.cons pk .nil))),.inr ⟨rfl,by rw [HS.out];exact HMO.out,by rw [HS.out];exact hsh⟩⟩
  ·obtain rfl:j=nx:=by omega
   obtain ⟨m,hm⟩:∃ m,n=at_+m:=⟨n-at_,by omega⟩
   have HMR:=zh hm;have HRM:Hid2 (kn+m<=ci) (kn+m<=ck):=⟨by omega,by omega⟩
   have hml1:((ids.drop at_).take m).length=m:=(by rw [qg,qC,HN.out];omega);have hml2:(((ts.map Tr.key).drop at_).take m).length=m:=(by rw [qg,qC,HTL.out];omega);have HLI:Hid ((((ids.drop at_).take m).map fI).length=m):=zh (by rw [qd,hml1]);have HLK:Hid (((((ts.map Tr.key).drop at_).take m).map fU).length=m):=zh (by rw [qd,hml2]);have HLTI:Hid (m≠0->at_<ci):=zh fun h=>by omega
   have HLTK:Hid (m≠0->at_<ck):=zh fun h=>by omega
   have HMI:Hid (at_+m<=ids.length):=zh (by rw [HN.out];omega);have HMK2:Hid (at_+m<=(ts.map Tr.key).length):=zh (by rw [HTL.out];omega);have hmn:at_+m<=n:=(by omega);clear hm hml1 hml2;go_wp2_with (first|refine sL ?_|(refine sS ?_;clear H;intros;rename_i H));replace H:St w M [blk gi (.cells (C1) 26),pA X1,blk gk (.cells (K1) 74),blk b3 (.cells #[.slice (some ⟨gi,0,none⟩) n ci,.slice (some ⟨gk,0,none⟩) n ck] 122),blk b4 (.cells #[.slice none 0 0,.slice none 0 0] 122),blk b8 (.cells #[.slice (some ⟨gi,0,none⟩) kn ci,.slice (some ⟨gk,0,none⟩) kn ck] 122),zc qE 3 1 (.slice ad j cp) ix] _:=H.picks (.cons pk (.cons pk (.cons pk (.cons pk (.cons pk (.cons pk (.cons pk .nil)))))));refine zM 7 [⟨[],fun v _=>v=.pointer (some ⟨b8,0,none⟩)⟩,⟨[0],fun v _=>v=.slice (some ⟨gi,0,none⟩) kn ci⟩,⟨[],fun v _=>v=.pointer (some ⟨b3,0,none⟩)⟩,⟨[2],fun v _=>v=.slice (some ⟨gi,0,none⟩) n ci⟩,⟨[],fun v _=>v=.int .i64 at_⟩,⟨[3,4],fun v _=>v=.slice (some ⟨gi,oi,none⟩) m cri⟩,⟨[1,5],fun v _=>v=.slice (some ⟨gi,0,none⟩) (kn+m) ci⟩] [6] [[0],[0],[0],[0],[0],[0],[0]] [fun _ wx=>St w M [blk gi (.cells (C1) 26),pA X1,blk gk (.cells (K1) 74),blk b3 (.cells #[.slice (some ⟨gi,0,none⟩) n ci,.slice (some ⟨gk,0,none⟩) n ck] 122),blk b4 (.cells #[.slice none 0 0,.slice none 0 0] 122),blk b8 (.cells #[.slice (some ⟨gi,0,none⟩) kn ci,.slice (some ⟨gk,0,none⟩) kn ck] 122),zc qE 3 1 (.slice ad j cp) ix] wx,fun vals wx=>St w M [blk gi (.cells (xK C1 kn (((ids.drop at_).take m).map fI)) 26),pA X1,blk gk (.cells (K1) 74),blk b3 (.cells #[.slice (some ⟨gi,0,none⟩) n ci,.slice (some ⟨gk,0,none⟩) n ck] 122),blk b4 (.cells #[.slice none 0 0,.slice none 0 0] 122),blk b8 (.cells #[.slice (some ⟨gi,0,none⟩) kn ci,.slice (some ⟨gk,0,none⟩) kn ck] 122),zc qE 3 1 (.slice ad j cp) ix] wx]
    [[],[(0,82)],[],[(2,84)],[],[(3,85),(4,86)],[(1,83),(5,87)]] [(0,82),(1,83),(2,84),(3,85),(4,86),(5,87),(6,88)] (by kernel_rfl) (by kernel_rfl) H.drew ⟨⟨qo,trivial⟩,⟨ql,trivial⟩,⟨qo,trivial⟩,⟨ql,trivial⟩,⟨qo,trivial⟩,⟨?_,trivial⟩,⟨?_,trivial⟩,trivial⟩ ?_
   ·intro vals wx hd HC;simp only [GF] at hd;have H:=HC;simp only [CA] at H;simp only [PS,hd];refine StStep.segL rfl rfl rfl rfl rfl rfl (m:=m) (cr:=cri) HMR.out HCRI.out HOI.out ⟨rfl,HC⟩
   ·intro vals wx hd HC;simp only [GF] at hd;have H:=HC;simp only [CA] at H;simp only [PS,hd];clear HC;refine StStep.room rfl rfl rfl rfl rfl rfl H (((ids.drop at_).take m).map fI) HLI.out (XP (H.at pk) HIN.out.i (zr _) HOI.out HLTI.out HMI.out) (by intro u hu;obtain ⟨x,_,rfl⟩:=qY.1 hu;rfl) HRM.out1 HSI.out ?_;intro wz H;exact ⟨rfl,H⟩
   intro vals wx hd HC;simp only [CA] at HC;have H:=HC;clear HC;simp only [GF] at hd;simp only [PS,hd];clear hd;go_wp2_with (first|refine sL ?_|(refine sS ?_;clear H;intros;rename_i H));obtain ⟨Ca,hca⟩:∃ c,xK C1 kn (((ids.drop at_).take m).map fI)=c:=⟨_,rfl⟩
   rw [hca] at H;have HCAE:=zh hca;clear hca;replace H:St w M [blk gk (.cells (K1) 74),pA X1,blk gi (.cells (Ca) 26),blk b3 (.cells #[.slice (some ⟨gi,0,none⟩) n ci,.slice (some ⟨gk,0,none⟩) n ck] 122),blk b4 (.cells #[.slice none 0 0,.slice none 0 0] 122),blk b8 (.cells #[.slice (some ⟨gi,0,none⟩) (kn+m) ci,.slice (some ⟨gk,0,none⟩) kn ck] 122),zc qE 3 1 (.slice ad j cp) ix] _:=H.picks (.cons pk (.cons pk (.cons pk (.cons pk (.cons pk (.cons pk (.cons pk .nil)))))));refine zM 7 [⟨[],fun v _=>v=.pointer (some ⟨b8,1,none⟩)⟩,⟨[0],fun v _=>v=.slice (some ⟨gk,0,none⟩) kn ck⟩,⟨[],fun v _=>v=.pointer (some ⟨b3,1,none⟩)⟩,⟨[2],fun v _=>v=.slice (some ⟨gk,0,none⟩) n ck⟩,⟨[],fun v _=>v=.int .i64 at_⟩,⟨[3,4],fun v _=>v=.slice (some ⟨gk,ok,none⟩) m crk⟩,⟨[1,5],fun v _=>v=.slice (some ⟨gk,0,none⟩) (kn+m) ck⟩] [6] [[0],[0],[0],[0],[0],[0],[0]] [fun _ wx=>St w M [blk gk (.cells (K1) 74),pA X1,blk gi (.cells (Ca) 26),blk b3 (.cells #[.slice (some ⟨gi,0,none⟩) n ci,.slice (some ⟨gk,0,none⟩) n ck] 122),blk b4 (.cells #[.slice none 0 0,.slice none 0 0] 122),blk b8 (.cells #[.slice (some ⟨gi,0,none⟩) (kn+m) ci,.slice (some ⟨gk,0,none⟩) kn ck] 122),zc qE 3 1 (.slice ad j cp) ix] wx,fun vals wx=>St w M [blk gk (.cells (xK K1 kn ((((ts.map Tr.key).drop at_).take m).map fU)) 74),pA X1,blk gi (.cells (Ca) 26),blk b3 (.cells #[.slice (some ⟨gi,0,none⟩) n ci,.slice (some ⟨gk,0,none⟩) n ck] 122),blk b4 (.cells #[.slice none 0 0,.slice none 0 0] 122),blk b8 (.cells #[.slice (some ⟨gi,0,none⟩) (kn+m) ci,.slice (some ⟨gk,0,none⟩) kn ck] 122),zc qE 3 1 (.slice ad j cp) ix] wx]
    [[],[(0,90)],[],[(2,92)],[],[(3,93),(4,94)],[(1,91),(5,95)]] [(0,90),(1,91),(2,92),(3,93),(4,94),(5,95),(6,96)] (by kernel_rfl) (by kernel_rfl) H.drew ⟨⟨qo,trivial⟩,⟨ql,trivial⟩,⟨qo,trivial⟩,⟨ql,trivial⟩,⟨qo,trivial⟩,⟨?_,trivial⟩,⟨?_,trivial⟩,trivial⟩ ?_
   ·intro vals wx hd HC;simp only [GF] at hd;have H:=HC;simp only [CA] at H;simp only [PS,hd];refine StStep.segL rfl rfl rfl rfl rfl rfl (m:=m) (cr:=crk) HMR.out HCRK.out HOK.out ⟨rfl,HC⟩
   ·intro vals wx hd HC;simp only [GF] at hd;have H:=HC;simp only [CA] at H;simp only [PS,hd];clear HC;refine StStep.room rfl rfl rfl rfl rfl rfl H ((((ts.map Tr.key).drop at_).take m).map fU) HLK.out (XP (H.at pk) HIN.out.kk (zr _) HOK.out HLTK.out HMK2.out) (by intro u hu;obtain ⟨x,_,rfl⟩:=qY.1 hu;rfl) HRM.out2 HSK.out ?_;intro wz H;exact ⟨rfl,H⟩
   intro vals wx hd HC;simp only [CA] at HC;have H:=HC;clear HC;simp only [GF] at hd;simp only [PS,hd];clear hd;go_wp2_with (first|refine sL ?_|(refine sS ?_;clear H;intros;rename_i H));refine bodyPost_ret (xd rfl H rfl pk rfl rfl) rfl ?_;rw [← HCAE.out] at H;obtain ⟨hl1,hl2,hl3⟩:=HIN.out.last HQ.out.den HPX.out.ok HNX.out.symm (HN.out.trans HMR.out) (by rw [HN.out];exact hci) (by rw [HN.out];exact hck);rw [HN.out] at hl3;exact ⟨X1,_,_,HIN.out.ext,HIN.out.ok,H.picks (.cons pk (.cons pk (.cons pk .nil))),.inl ⟨_,by rw [hl2];rfl,hl1,by rw [hl2];exact hl3⟩⟩
end
section
open Go.RowKit Go.Maps
attribute [local go_sem] qt
section
variable {ops:Array Oper} {a:Act} {w w0:World} {M:List Nat} {L:List As} {o:Oper} {Rr:Value->World->Prop}
theorem run_mkroom {t e:TypeId} {n:Nat} {z:Value} {bytes:Nat} (hte:yv t=some e) (hi:xx e=some (z,1,bytes)) (hz:z.cells=#[z]) (hn:n*bytes<=281474976710656) (h63:n<=16777216) (w:World) :
  (Instr.makeSlice t (.int .i64 0) (.int .i64 (n:Int))).run zb w=.ok (.slice (some ⟨w.heap.size,0,none⟩) 0 n) (w.alloc (.cells (madeCells #[z] n) e)):=by
 obtain ⟨i,h2,h3,h4,h5⟩:=x6 hi;have hb3:(bytes:Int)*(n:Int)<=281474976710656:=by
  have h9:((n*bytes:Nat):Int)<=281474976710656:=(by omega);rw [xO] at h9;rwa [Yl] at h9
 have hrun:=run_makeSlice (P:=zb) (w:=w) t e i z (yi hte) h2 h3 .i64 .i64 0 n (by omega) (by omega) (by rw [h4];simp;omega) (by rw [h5];exact hb3) (by omega);rw [hz,h4] at hrun;simpa only [Int.toNat_natCast,Nat.mul_one,Int.toNat_zero] using hrun
def blkV:Value->Nat
 |.pointer (some ad)=>ad.block
 |.slice (some ad) _ _=>ad.block
 |_=>0
def newA (cs:Array Value) (e:TypeId) (v:Value):As:=blk (blkV v) (.cells cs e)
theorem StStep.mkroom {t e:TypeId} {x y:Operand} {n:Nat} {z:Value} {bytes:Nat} (H:St w0 M L w) (hw:Region.wanted o (yielded ops a.tmps)=true) (ho:o.op=.makeSlice t x y) (hx:a.eval x=.int .i64 0) (hy:a.eval y=.int .i64 (n:Int)) (hte:yv t=some e) (hi:xx e=some (z,1,bytes)) (hz:z.cells=#[z]) (hn:n*bytes<=281474976710656) (h63:n<=16777216)
  (h:∀ b w',St w0 M (newA (madeCells #[z] n) e (.slice (some ⟨b,0,none⟩) 0 n)::L) w'->Rr (.slice (some ⟨b,0,none⟩) 0 n) w'):StStep zb ops o a w Rr :=
 StStep.val hw (by unfold execOp;simp only [ho,hx,hy,Sem.run_bind,run_mkroom hte hi hz hn h63 w,Result.andThen_ok];rfl) (h w.heap.size (w.alloc _) (H.alloc _))
end
def qN (x:Nat):List Value:=[.int .u8 x]
theorem ki:∀ x,(qN x).length=1:=fun _=>rfl
theorem Arr.fresh {C:Array Value} {cap:Nat} {f:Nat->Value} {a:Nat} (h:C.size=cap):Arr C cap f [] [] a:=⟨h,by simp,by simp⟩
structure LetIn (X X':Px) (text:List Nat) (n k:Nat) (C K:Array Value) (nids:List Nat):Prop where
 ext:X.Ext X'
 ok:zK X'
 hk:k<=n
 nl:nids.length=k
 den:DenL X'.S nids ((text.take k).map Tr.leaf)
 i:Arr C n fI nids [] n
 kk:Arr K n fU (((text.take k).map Tr.leaf).map Tr.key) [] n
 size:X'.S.list.length<=X.S.list.length+k
theorem LetIn.step {X X1 X2:Px} {text:List Nat} {n k id b ky:Nat} {C K:Array Value} {nids:List Nat} (h:LetIn X X1 text n k C K nids) (hn:text.length=n) (hb:text[k]?=some b) (ext:X1.Ext X2) (ok:zK X2) (hid:Den X2.S id (.leaf b)) (hky:(Tr.leaf b).key=ky) (hsz:X2.S.list.length<=X1.S.list.length+1) :
  LetIn X X2 text n (k+1) (xK C k [.int .i64 id]) (xK K k [.int .u64 ky]) (nids++[id]):=by
 have hk:=yE hb;have e:text.take (k+1)=text.take k++[b]:=(by rw [x5,hb];rfl);have hkl:(((text.take k).map Tr.leaf).map Tr.key).length=k:=(by rw [qd,qd,qg];omega);refine ⟨h.ext.trans ext,ok,by omega,by simp [h.nl],?_,?_,?_,by have:=h.size;omega⟩
 ·rw [e,xH];exact (h.den.le h.ok.ok ext.le).append ⟨hid,trivial⟩
 ·have:=h.i.app [id] (a':=n) (zr _) (by rw [h.nl];simp;omega) (by rw [h.nl];simp;omega);rw [h.nl] at this;exact this
 ·have:=h.kk.app [ky] (a':=n) (zr _) (by rw [hkl];simp;omega) (by rw [hkl];simp;omega);rw [hkl] at this;rw [e,xH,xH];simp only [zX,ye,hky];exact this
abbrev LetPost (X:Px) (ts:List Tr) (n:Nat) (M:List Nat) (w:World) (e:Ending) (w':World):Prop :=
 ∃ X':Px,X.Ext X'∧zK X'∧((∃ (gi gk:Nat) (CI CK:Array Value) (ids:List Nat),e=.returned (.tuple #[.agg #[.slice (some ⟨gi,0,none⟩) n n,.slice (some ⟨gk,0,none⟩) n n],.nilIface])∧W0 X' CI CK n n ids ts∧X'.S.list.length<=X.S.list.length+n∧St w M [pA X',blk gi (.cells CI 26),blk gk (.cells CK 74)] w') ∨
  (e=.returned (.tuple #[.agg #[.slice none 0 0,.slice none 0 0],EV 3])∧X'.S.most<=X'.S.list.length∧X'.S.list.length<X.S.list.length+n∧St w M [pA X'] w'))
def LetRel (X:Px) (text:List Nat) (n gi gk b4 b6:Nat) (M:List Nat) (w:World) (v21:Value) (wr:World):Prop :=
 ∃ (X':Px) (k:Nat) (C K:Array Value) (nids:List Nat),v21=.int .i64 k∧LetIn X X' text n k C K nids∧St w M [pA X',blk b6 (.cells #[.slice (some ⟨gi,0,none⟩) k n,.slice (some ⟨gk,0,none⟩) k n] 122),blk gi (.cells C 26),blk gk (.cells K 74),blk b4 (.cells #[.slice none 0 0,.slice none 0 0] 122)] wr
attribute [local go_sem] StStep jw yM in
theorem letters_p {X:Px} {P:wi} {text:List Nat} {v:Value} (hX:zK X) (hr:RowIn P qN 1 v text) (hb:∀ x∈text,x<256) (h1:1<=text.length) (hlen:text.length<=65536) (w:World) (hd:((pA X).sep deA).ho w) (hp:((pA X).sep (qX P)).ho w) :
  Calls zb 62 #[.pointer (some ⟨X.p,0,none⟩),v] w (LetPost X (text.map Tr.leaf) text.length (pA X).fp w):=by
 obtain ⟨g,of,c,rfl,_⟩:=hr.has (by omega);rw [qz] at hd hp;have H:=St.one hd.1;have HK:Ks w (pA X).fp [deA,qX P]:=⟨fun A hA=>by
   simp at hA;rcases hA with rfl|rfl
   ·exact hd.2.1
   ·exact hp.2.1,fun A hA b hbA hm=>by
   simp at hA;rcases hA with rfl|rfl
   ·exact hd.2.2 b hm hbA
   ·exact hp.2.2 b hm hbA⟩
 generalize (pA X).fp=M at *;have HR:=zh hr;have HB:=zh hb;have HPX:=zh hX;obtain ⟨n,hn⟩:∃ n,text.length=n:=⟨_,rfl⟩
 have HN:=zh hn;rw [hn] at hlen h1 HR ⊢;clear hd hp hr hb hX hn;go_enter Tryz.func62,Tryz.ntmps62;go_wp2_with (first|refine sL ?_|(refine sS ?_;clear H;intros;rename_i H));rename_i b4 _ _ _;refine ka H [blk b4 (.cells #[.slice none 0 0,.slice none 0 0] 122),pA X] 8 [⟨[],[],[],fun v _=>v=.slice (some ⟨g,of,none⟩) n c,fun _ _=>[]⟩,⟨[],[],[0],fun v _=>v=.int .i64 n,fun _ _=>[]⟩,⟨[],[],[1],fun v _=>∃ b,v=.slice (some ⟨b,0,none⟩) 0 n,fun v _=>[newA (madeCells #[.int .i64 0] n) 26 v]⟩,⟨[],[],[],fun v _=>v=.slice (some ⟨g,of,none⟩) n c,fun _ _=>[]⟩,⟨[],[],[3],fun v _=>v=.int .i64 n,fun _ _=>[]⟩,⟨[],[],[4],fun v _=>∃ b,v=.slice (some ⟨b,0,none⟩) 0 n,fun v _=>[newA (madeCells #[.int .u64 0] n) 74 v]⟩,⟨[],[],[2,5],fun v l=>∃ p q,l=[.slice (some ⟨p,0,none⟩) 0 n,.slice (some ⟨q,0,none⟩) 0 n]∧v=.agg #[.slice (some ⟨p,0,none⟩) 0 n,.slice (some ⟨q,0,none⟩) 0 n],fun _ _=>[]⟩,⟨[],[],[],fun v _=>∃ b,v=.pointer (some ⟨b,0,none⟩),fun v _=>[newA #[.slice none 0 0,.slice none 0 0] 122 v]⟩] (by kernel_rfl)
  [[],[(0,12)],[(1,13)],[],[(3,15)],[(4,16)],[(2,14),(5,17)],[]] [(0,12),(1,13),(2,14),(3,15),(4,16),(5,17),(6,18),(7,6)] [0,1,2,3,4,5,6,7] (by kernel_rfl) (by kernel_rfl) (by kernel_rfl) ⟨?_,?_,?_,?_,?_,?_,?_,?_,trivial⟩ ?_
 ·intro vals wx X hd H;clear hd;replace H:=sP H;simp only [yu,zx];go_simp;first|exact H|exact ⟨rfl,H⟩
 ·intro vals wx X hd H;have h0:vals 0=.slice (some ⟨g,of,none⟩) n c:=hd.1;clear hd;replace H:=sP H;simp only [yu,zx,zB,Act.put,zf,zq,zp,h0];clear h0;go_simp;first|exact H|exact ⟨rfl,H⟩
 ·intro vals wx X hd H;have h1:vals 1=.int .i64 n:=hd.1;clear hd;replace H:=sP H;simp only [yu,zx,zB,Act.put,zf,zq,zp,h1];exact StStep.mkroom (bytes:=8) H rfl rfl rfl rfl rfl rfl rfl (by omega) (by omega) fun b w' H=>⟨⟨b,rfl⟩,H⟩
 ·intro vals wx X hd H;clear hd;replace H:=sP H;simp only [yu,zx];go_simp;first|exact H|exact ⟨rfl,H⟩
 ·intro vals wx X hd H;have h3:vals 3=.slice (some ⟨g,of,none⟩) n c:=hd.1;clear hd;replace H:=sP H;simp only [yu,zx,zB,Act.put,zf,zq,zp,h3];clear h3;go_simp;first|exact H|exact ⟨rfl,H⟩
 ·intro vals wx X hd H;have h4:vals 4=.int .i64 n:=hd.1;clear hd;replace H:=sP H;simp only [yu,zx,zB,Act.put,zf,zq,zp,h4];exact StStep.mkroom (bytes:=8) H rfl rfl rfl rfl rfl rfl rfl (by omega) (by omega) fun b w' H=>⟨⟨b,rfl⟩,H⟩
 ·intro vals wx X hd H;have h2:=hd.1;have h5:=hd.2.1;clear hd;replace H:=sP H;simp only [yu,zx,zB,Act.put,zf,zq,zp];obtain ⟨p,e2⟩:∃ b,vals 2=.slice (some ⟨b,0,none⟩) 0 n:=h2;obtain ⟨q,e5⟩:∃ b,vals 5=.slice (some ⟨b,0,none⟩) 0 n:=h5;have e9:[2,5].map vals=[.slice (some ⟨p,0,none⟩) 0 n,.slice (some ⟨q,0,none⟩) 0 n]:=(by simp only [zX,ye,e2,e5]);simp only [e9];rw [e2,e5];clear e2 e5 e9;go_simp;first|exact H|exact ⟨⟨p,q,rfl,rfl⟩,H⟩
 ·intro vals wx X hd H;clear hd;replace H:=sP H;simp only [yu,zx];exact StStep.allocT H rfl rfl rfl rfl fun b w' H=>⟨⟨b,rfl⟩,H⟩
 intro vals wx hd H;have h0:vals 0=.slice (some ⟨g,of,none⟩) n c:=hd.1;have h1:vals 1=.int .i64 n:=hd.2.1;have h2:=hd.2.2.1;have h3:vals 3=.slice (some ⟨g,of,none⟩) n c:=hd.2.2.2.1;have h4:vals 4=.int .i64 n:=hd.2.2.2.2.1;have h5:=hd.2.2.2.2.2.1;have h6:=hd.2.2.2.2.2.2.1;have h7:=hd.2.2.2.2.2.2.2.1;clear hd;replace H:=sP H;simp only [yu,zx,zB,Act.put,zf,zq,zp,wQ,yw,h0,h1,h3,h4];clear h0 h1 h3 h4;obtain ⟨gi,gk,e9,e6⟩:∃ p q,[2,5].map vals=[.slice (some ⟨p,0,none⟩) 0 n,.slice (some ⟨q,0,none⟩) 0 n]∧vals 6=.agg #[.slice (some ⟨p,0,none⟩) 0 n,.slice (some ⟨q,0,none⟩) 0 n]:=h6;simp only [zX,ye,Zq.injEq,and_true] at e9;obtain ⟨b6,e7⟩:∃ b,vals 7=.pointer (some ⟨b,0,none⟩):=h7;simp only [e9.1,e9.2,e6,e7,newA,blkV] at H ⊢;clear e9 e6 e7 h2 h5;go_wp2_with (first|refine sL ?_|(refine sS ?_;clear H;intros;rename_i H))
 go_loopw [21] (fun v21 wr=>LetRel X text n gi gk b4 b6 M w v21 wr) (fun v21 _=>n-(intOf v21).toNat)
 case atStart=>exact ⟨X,0,_,_,[],rfl,⟨.refl _,HPX.out,qy _,rfl,trivial,Arr.fresh (by have:=congrArg ym (toList_madeCells_one (.int .i64 0) n);simpa using this),Arr.fresh (by have:=congrArg ym (toList_madeCells_one (.int .u64 0) n);simpa using this),zr _⟩,H.picks (.cons pk (.cons pk (.cons pk (.cons pk (.cons pk .nil)))))⟩
 case round =>
  clear H;obtain ⟨X1,k,C1,K1,nids,rfl,hin,H⟩:=hrel;have hkl:=hin.hk;have HIN:=zh hin;have HSI:=zh hin.i.size;have HSK:=zh hin.kk.size;clear hin;by_cases hlt:k<n
  ·obtain ⟨b,hb⟩:∃ b,text[k]?=some b:=⟨_,zg (by rw [HN.out];exact hlt)⟩
   have HBX:=zh hb;have HC:Hid (∀ w,(qX P).ho w->w.cell? ⟨g,of+k,none⟩=some (.int .u8 b)):=zh fun w h=>HR.out.cell h ki hb rfl
   have hb2:=HB.out b (zy hb);have HC0:Hid (∀ w,(pA X1).ho w->w.cell? ⟨X.p,0,none⟩=some (.pointer (some ⟨X1.s,0,none⟩))):=zh fun w h=>by have:=Xk h;rwa [HIN.out.ext.p] at this
   have HLT:Hid (∀ w,(pA X1).ho w->Calls zb 42 #[.pointer (some ⟨X1.s,0,none⟩),.int .u8 b] w (QH X1 (.leaf b) (pA X1).fp w)):=zh fun w h=>Ws b hb2 HIN.out.ok w h
   clear hb;go_wp2_with (first|refine sL ?_|(refine sS ?_;clear H;intros;rename_i H)|((with_reducible refine qh ?_);refine AtLoad.cel rfl rfl rfl rfl (HC.out _ (H.known HK pk)) ?_;simp only [Act.put,puA,puB,puC]));with_reducible refine zm (HLT.out _ (H.get pk)) ?_
   rintro e wc ⟨X2,id,c',rfl,m1,m2,m3,m4,hcl⟩;replace H:=(H.pick pk).call hcl;clear hcl;simp only [zo,zv] at H;have HE:=zh m1;have HO2:=zh m2;have HM3:=zh m3;rcases m4 with ⟨rfl,hid⟩|⟨rfl,rfl,hs,hmost⟩
   ·obtain ⟨ky,hky⟩:∃ ky,(Tr.leaf b).key=ky:=⟨_,rfl⟩
    have HKY:=zh hky;have HID:=zh hid;have HAD:Hid (∀ w,((sqA X2 b6 gi gk n n k C1 K1).sep deA).ho w->Calls zb 96 #[.pointer (some ⟨X.p,0,none⟩),.pointer (some ⟨b6,0,none⟩),.int .i64 id] w (Kd X2 b6 gi gk n n k C1 K1 id ky (sqA X2 b6 gi gk n n k C1 K1).fp w)):=zh fun w h=>by
     have:=add_p (k:=k) HO2.out HID.out HKY.out (by omega) (by omega) (by omega) HSI.out HSK.out w h;rwa [HE.out.p,HIN.out.ext.p] at this
    clear m1 m2 m3 hid hky;simp only [wI] at *;replace H:=WR (H.picks (L':=[pA X2,blk b6 (.cells #[.slice (some ⟨gi,0,none⟩) k n,.slice (some ⟨gk,0,none⟩) k n] 122),blk gi (.cells C1 26),blk gk (.cells K1 74),blk b4 (.cells #[.slice none 0 0,.slice none 0 0] 122)]) (.cons pk (.cons pk (.cons pk (.cons pk (.cons pk .nil))))));go_wp2_with (first|refine sL ?_|(refine sS ?_;clear H;intros;rename_i H)|(go_at_call 96;with_reducible refine zm (HAD.out _ (H.sepK HK pk pk)) ?_;rintro e wc ⟨X3,y1,y2,y3,rfl,hb⟩;have HY:=zh (za y1 (za y2 y3));clear y1 y2 y3;replace H:=zn ((H.pick pk).call hb);clear hb;replace H:=WQ H));exact ⟨⟨X3,k+1,_,_,_,by go_num,HIN.out.step HN.out HBX.out (HE.out.trans HY.out.1) HY.out.2.1 (by rw [HY.out.2.2];exact HID.out) HKY.out (by rw [HY.out.2.2];exact HM3.out),H.picks (.cons pk (.cons pk (.cons pk (.cons pk (.cons pk .nil)))))⟩,by simp [intOf];omega⟩
   ·have HS:=zh hs;have HMO:=zh hmost;clear hs hmost m1 m2 m3;simp only [wI,EV] at *;go_wp2_with (first|refine sL ?_|(refine sS ?_;clear H;intros;rename_i H));refine bodyPost_ret (xd rfl H rfl pk rfl rfl) rfl ?_;exact ⟨X2,HIN.out.ext.trans HE.out,HO2.out,.inr ⟨rfl,by rw [HS.out];exact HMO.out,by rw [HS.out];have:=HIN.out.size;omega,H.picks (.cons pk .nil)⟩⟩
  ·obtain rfl:k=n:=by omega
   go_wp2_with (first|refine sL ?_|(refine sS ?_;clear H;intros;rename_i H));refine bodyPost_ret (xd rfl H rfl pk rfl rfl) rfl ?_;have hin:=HIN.out;have htk:text.take k=text:=qp (by rw [HN.out];exact zr _);have hden:=hin.den;have hkk:=hin.kk;rw [htk] at hden hkk;exact ⟨X1,hin.ext,hin.ok,.inl ⟨gi,gk,C1,K1,nids,rfl,⟨hden,hin.i.forget,hkk.forget⟩,hin.size,H.picks (.cons pk (.cons pk (.cons pk .nil)))⟩⟩
end
section
open Go.RowKit Go.Maps
attribute [local go_sem] qt
theorem lenL_runs (l:List Tr):xe (runs l)=xe l:=by
 have h:=vx l;have h2:∀ g:List (Tr×Nat),xe (g.map jb)=xe (g.flatMap fun p=>zd p.2 p.1):=by
  intro g;induction g with
  |nil=>rfl
  |cons p g ih =>
   rw [zX,yB,zt,yx,ih,Wn];congr 1
   unfold jb;split
   ·rename_i h1;rw [h1,Nat.mul_one]
   ·rfl
 unfold runs;rw [h2,h]
theorem Qv (f:Tr->Tr->Bool):∀ l:List Tr,xe (zH f l)=xe l
 |[]=>rfl
 |[x]=>rfl
 |x::y::r=>by
  rw [zH];split
  ·rw [yB,Qv f r,yB,yB];show x.len+y.len+_=_
   omega
  ·rw [yB,Qv f (y::r),yB,yB,yB]
theorem lenL_step (m:Nat) (l:List Tr):xe (yc m l)=xe l:=by
 unfold yc;split
 ·exact lenL_runs l
 ·exact Qv _ l
theorem Wo (s:List Tr):∀ m,xe (xf s m)=xe s
 |0=>rfl
 |m+1=>by rw [xf,lenL_step,Wo s m]
theorem lenL_leaf (l:List Nat):xe (l.map Tr.leaf)=l.length:=by
 induction l with
 |nil=>rfl
 |cons x l ih=>rw [zX,yB,ih,zw];show 1+_=_;omega
theorem Canon.pow (T:Tr) (h:Canon T):T.Pow2:=by
 have:=h.pow2 T.lv T;rw [qG (zr _)] at this;exact this (by simp)
theorem Canon.one {T:Tr} (h:Canon T) {m:Nat} (hl:(T.lay m).length<=1):T.lay m=[T]:=by
 by_cases hm:m<T.lv
 ·have:=XJ h.pow hm;omega
 ·exact qG (by omega)
theorem Canon.two {T:Tr} (h:Canon T) (hu:T.Upto 25339) {m:Nat} (hl:1<(T.lay m).length):m<25339:=by
 have h1:=hu.lv;by_cases hm:m<T.lv
 ·omega
 ·rw [qG (by omega)] at hl;simp at hl
abbrev OfPost (X:Px) (T:Tr) (n:Nat) (M:List Nat) (w:World) (e:Ending) (w':World):Prop :=
 ∃ X':Px,X.Ext X'∧zK X'∧X'.S.list.length<=X.S.list.length+2*n∧((∃ id,e=.returned (.tuple #[.int .i64 (id:Nat),.nilIface])∧Den X'.S id T) ∨
  (e=.returned (.tuple #[.int .i64 0,EV 3])∧X'.S.most<=X'.S.list.length))∧St w M [pA X'] w'
structure OfIn (X X':Px) (T:Tr) (n l q:Nat) (C K:Array Value) (ids:List Nat):Prop where
 ext:X.Ext X'
 ok:zK X'
 inn:W0 X' C K n n ids (T.lay l)
 len:ids.length=q
 pos:1<=q
 size:X'.S.list.length+q<=X.S.list.length+2*n
def OfRel (X:Px) (T:Tr) (n gi gk b6:Nat) (M:List Nat) (w:World) (v8:Value) (wr:World):Prop :=
 ∃ (X':Px) (l q:Nat) (C K:Array Value) (ids:List Nat),v8=.int .i64 (l+1:Nat)∧OfIn X X' T n l q C K ids∧l<=25339∧St w M [pA X',blk b6 (.cells #[.slice (some ⟨gi,0,none⟩) q n,.slice (some ⟨gk,0,none⟩) q n] 122),blk gi (.cells C 26),blk gk (.cells K 74)] wr
theorem of_p {X:Px} {P:wi} {text:List Nat} {v:Value} {T:Tr} (hX:zK X) (hr:RowIn P qN 1 v text) (hb:∀ x∈text,x<256) (h1:1<=text.length) (hlen:text.length<=65536) (hT:Canon T) (h0:T.lay 0=text.map Tr.leaf) (hU:T.Upto 25339) (w:World) (hd:((pA X).sep deA).ho w) (hp:((pA X).sep (qX P)).ho w) :
  Calls zb 22 #[.pointer (some ⟨X.p,0,none⟩),v] w (OfPost X T text.length (pA X).fp w):=by
 obtain ⟨g,of,c,rfl,_⟩:=hr.has (by omega);have HLE:Hid (∀ w,((pA X).sep deA).ho w->((pA X).sep (qX P)).ho w->Calls zb 62 #[.pointer (some ⟨X.p,0,none⟩),.slice (some ⟨g,of,none⟩) text.length c] w (LetPost X (T.lay 0) text.length (pA X).fp w)):=zh fun w h1' h2'=>by rw [h0];exact letters_p hX hr hb h1 hlen w h1' h2'
 have HC0:Hid (∀ w,(pA X).ho w->w.cell? ⟨X.p,0,none⟩=some (.pointer (some ⟨X.s,0,none⟩))):=zh fun w h=>Xk h
 rw [qz] at hd hp;have H:=St.one hd.1;have HK:Ks w (pA X).fp [deA,qX P]:=⟨fun A hA=>by
   simp at hA;rcases hA with rfl|rfl
   ·exact hd.2.1
   ·exact hp.2.1,fun A hA b hbA hm=>by
   simp at hA;rcases hA with rfl|rfl
   ·exact hd.2.2 b hm hbA
   ·exact hp.2.2 b hm hbA⟩
 generalize (pA X).fp=M at *;have HML:Hid (∀ l,xe (T.lay l)<=yG):=zh fun l=>by
  rw [← hT.seq,h0,Wo,lenL_leaf];unfold yG;omega
 have HCN:=zh hT;have HUP:=zh hU;have HPX:=zh hX;obtain ⟨n,hn⟩:∃ n,text.length=n:=⟨_,rfl⟩
 have HLN:Hid ((T.lay 0).length=n):=zh (by rw [h0,qd,hn]);rw [hn] at hlen h1 HLE ⊢;clear hd hp hr hb hX hn hT h0 hU;have d0:decide ((65536:Int)<(n:Int))=false:=(by simp;omega);have d1:((n:Int)==0)=false:=(by simp;omega);go_enter Tryz.func22,Tryz.ntmps22;go_wp2_with (first|refine sL ?_|(refine sS ?_;clear H;intros;rename_i H));with_reducible refine zm (HLE.out _ (H.sepK HK pk pk) (H.sepK HK pk pk)) ?_
 rintro e wc ⟨X0,x1,x2,⟨gi,gk,CI,CK,ids,rfl,hs,hsz,hb⟩|⟨rfl,hm,hl,hb⟩⟩;rotate_left
 ·clear H;have H:=hb;clear hb;have HX:=zh (za x1 (za x2 (za hm hl)));clear x1 x2 hm hl;simp only [EV] at *;go_wp2_with (first|refine sL ?_|(refine sS ?_;clear H;intros;rename_i H));go_ret2;exact ⟨X0,HX.out.1,HX.out.2.1,by have:=HX.out.2.2.2;omega,.inr ⟨rfl,HX.out.2.2.1⟩,H.picks (.cons pk .nil)⟩
 ·clear H;have H:=hb;clear hb;have HIN0:Hid (OfIn X X0 T n 0 n CI CK ids):=zh ⟨x1,x2,hs,by rw [hs.den.len,HLN.out],h1,by omega⟩;clear x1 x2 hs hsz;go_wp2_with (first|refine sL ?_|(refine sS ?_;clear H;intros;rename_i H));rename_i b6 _ _ _ _
  go_loopw [8] (fun v8 wr=>OfRel X T n gi gk b6 M w v8 wr) (fun v8 _=>25340-(intOf v8).toNat)
  case atStart=>exact ⟨X0,0,n,CI,CK,ids,rfl,HIN0.out,qy _,H.picks (.cons pk (.cons pk (.cons pk (.cons pk .nil))))⟩
  case round =>
   clear H HIN0;obtain ⟨X1,l,q,C1,K1,ids1,rfl,hin,hl2,H⟩:=hrel;have hq1:=hin.pos;have HIN:=zh hin;have hqn:q<=n:=(by have:=hin.inn.i.len;rw [hin.len] at this;exact this);have hql:(T.lay l).length=q:=(by rw [← hin.inn.den.len,hin.len]);have HQL:=zh hql;clear hin hql;by_cases hq:1<q
   ·have hlt:l<25339:=HCN.out.two HUP.out (by rw [HQL.out];exact hq);have d2:decide ((1:Int)<(q:Int))=true:=(by simp;omega);replace H:=((H.picks (L':=[blk gi (.cells C1 26),blk gk (.cells K1 74),pA X1,blk b6 (.cells #[.slice (some ⟨gi,0,none⟩) q n,.slice (some ⟨gk,0,none⟩) q n] 122)]) (.cons pk (.cons pk (.cons pk (.cons pk .nil))))).join.pick2 (A:=pA X1) (B:=(blk gi (.cells C1 26)).sep (blk gk (.cells K1 74))) pk pk).join;by_cases hpar:(l+1)%2=1
    ·have HRU:Hid (∀ w,(((pA X1).sep ((blk gi (.cells C1 26)).sep (blk gk (.cells K1 74)))).sep deA).ho w->Calls zb 63 #[.pointer (some ⟨X.p,0,none⟩),.agg #[.slice (some ⟨gi,0,none⟩) q n,.slice (some ⟨gk,0,none⟩) q n]] w (XB X1 gi gk n n q (T.lay (l+1)) ((pA X1).sep ((blk gi (.cells C1 26)).sep (blk gk (.cells K1 74)))).fp w)):=zh fun w h=>by
      have:=runs_p HIN.out.ok HIN.out.inn (by rw [HIN.out.len];exact hq1) (by rw [HIN.out.len];omega) (HML.out l) w h;rw [HIN.out.len,HIN.out.ext.p] at this;have hst:=HCN.out.step l;rw [yc,if_pos hpar] at hst;rwa [hst] at this
     go_wp2_with (first|refine sL ?_|(refine sS ?_;clear H;intros;rename_i H));with_reducible refine zm (HRU.out _ (H.sepK HK pk pk)) ?_
     rintro e wc ⟨X2,C2,K2,y1,y2,hcl,⟨ids2,rfl,hs,hsz⟩|⟨rfl,hmo,hsz⟩⟩
     ·replace H:=(H.pick pk).call hcl;clear hcl;simp only [zo,zv] at H;obtain ⟨q2,hq2⟩:∃ q2,(T.lay (l+1)).length=q2:=⟨_,rfl⟩
      have HIN2:Hid (OfIn X X2 T n (l+1) q2 C2 K2 ids2):=zh ⟨HIN.out.ext.trans y1,y2,hs,by rw [hs.den.len,hq2],by rw [← hq2];exact wS HCN.out.pow,by rw [← hq2];have:=HIN.out.size;omega⟩;clear y1 y2 hs hsz;rw [hq2];clear hq2;go_wp2_with (first|refine sL ?_|(refine sS ?_;clear H;intros;rename_i H));exact ⟨⟨X2,l+1,q2,C2,K2,ids2,by go_num,HIN2.out,by omega,H.picks (.cons pk (.cons pk (.cons pk (.cons pk .nil))))⟩,by simp [intOf];omega⟩
     ·replace H:=(H.pick pk).call hcl;clear hcl;simp only [zo,zv] at H;have HY:=zh (za y1 (za y2 (za hmo hsz)));clear y1 y2 hmo hsz;simp only [EV] at *;go_wp2_with (first|refine sL ?_|(refine sS ?_;clear H;intros;rename_i H));go_ret2;exact ⟨X2,HIN.out.ext.trans HY.out.1,HY.out.2.1,by have:=HY.out.2.2.2;have:=HIN.out.size;omega,.inr ⟨rfl,HY.out.2.2.1⟩,H.picks (.cons pk .nil)⟩
    ·have HRU:Hid (∀ w,(((pA X1).sep ((blk gi (.cells C1 26)).sep (blk gk (.cells K1 74)))).sep deA).ho w->Calls zb 64 #[.pointer (some ⟨X.p,0,none⟩),.agg #[.slice (some ⟨gi,0,none⟩) q n,.slice (some ⟨gk,0,none⟩) q n],.int .i64 ((l:Int)+1)] w (XB X1 gi gk n n q (T.lay (l+1)) ((pA X1).sep ((blk gi (.cells C1 26)).sep (blk gk (.cells K1 74)))).fp w)):=zh fun w h=>by
      have:=pairs_p (L:=l+1) HIN.out.ok HIN.out.inn (by omega) (by omega) (by omega) (by rw [HIN.out.len];exact hq1) (by rw [HIN.out.len];omega) (HML.out l) w h;rw [HIN.out.len,HIN.out.ext.p] at this;have hst:=HCN.out.step l;rw [yc,if_neg hpar] at hst;rwa [hst] at this
     go_wp2_with (first|refine sL ?_|(refine sS ?_;clear H;intros;rename_i H));with_reducible refine zm (HRU.out _ (H.sepK HK pk pk)) ?_
     rintro e wc ⟨X2,C2,K2,y1,y2,hcl,⟨ids2,rfl,hs,hsz⟩|⟨rfl,hmo,hsz⟩⟩
     ·replace H:=(H.pick pk).call hcl;clear hcl;simp only [zo,zv] at H;obtain ⟨q2,hq2⟩:∃ q2,(T.lay (l+1)).length=q2:=⟨_,rfl⟩
      have HIN2:Hid (OfIn X X2 T n (l+1) q2 C2 K2 ids2):=zh ⟨HIN.out.ext.trans y1,y2,hs,by rw [hs.den.len,hq2],by rw [← hq2];exact wS HCN.out.pow,by rw [← hq2];have:=HIN.out.size;omega⟩;clear y1 y2 hs hsz;rw [hq2];clear hq2;go_wp2_with (first|refine sL ?_|(refine sS ?_;clear H;intros;rename_i H));exact ⟨⟨X2,l+1,q2,C2,K2,ids2,by go_num,HIN2.out,by omega,H.picks (.cons pk (.cons pk (.cons pk (.cons pk .nil))))⟩,by simp [intOf];omega⟩
     ·replace H:=(H.pick pk).call hcl;clear hcl;simp only [zo,zv] at H;have HY:=zh (za y1 (za y2 (za hmo hsz)));clear y1 y2 hmo hsz;simp only [EV] at *;go_wp2_with (first|refine sL ?_|(refine sS ?_;clear H;intros;rename_i H));go_ret2;exact ⟨X2,HIN.out.ext.trans HY.out.1,HY.out.2.1,by have:=HY.out.2.2.2;have:=HIN.out.size;omega,.inr ⟨rfl,HY.out.2.2.1⟩,H.picks (.cons pk .nil)⟩
   ·obtain rfl:q=1:=by omega
    have hone:=HCN.out.one (m:=l) (by rw [HQL.out];exact zr _);have hin:=HIN.out;have hden:=hin.inn.den;rw [hone] at hden;obtain ⟨id,hid⟩:∃ id,ids1=[id]:=by
     have:=hin.len;cases ids1 with
     |nil=>simp at this
     |cons a r=>cases r with
      |nil=>exact ⟨a,rfl⟩
      |cons _ _=>simp at this
    subst hid;have HID:=zh hden.1;have HC:Hid (∀ w,(blk gi (.cells C1 26)).ho w->w.cell? ⟨gi,0,none⟩=some (.int .i64 id)):=zh fun w h=>zV h (HIN.out.inn.i.nw 0 id rfl)
    clear hone hin hden;go_wp2_with (first|refine sL ?_|(refine sS ?_;clear H;intros;rename_i H));go_ret2;exact ⟨X1,HIN.out.ext,HIN.out.ok,by have:=HIN.out.size;omega,.inl ⟨id,rfl,HID.out⟩,H.picks (.cons pk .nil)⟩
end
section
open Go.RowKit Go.Maps
attribute [local go_sem] qt
structure Fr where
 id:Nat
 r:Rl
 lev:Nat
 hv:Nat
def Fr.cells (f:Fr):List Value:=[.int .i64 f.id,.int .i64 f.r.kind,.int .u8 f.r.letter,.int .i64 f.r.left,.int .i64 f.r.right,.int .i64 f.r.times,.int .i64 f.lev,.int .i64 f.hv]
def xF (r:Rl):Nat:=if r.kind=3 then r.times else 2
def farN (bk:Bool) (f:Fr):Nat:=if f.r.kind=2∧bk=true then f.r.right else f.r.left
def jR (bk:Bool) (f:Fr):Nat:=if f.r.kind=2∧((f.hv=2∧bk=false)∨(f.hv=1∧bk=true)) then f.r.right else f.r.left
theorem whole_c (r:Rl) (w:World):Calls zb 173 #[yY r] w fun e w'=>e=.returned (.int .i64 (xF r))∧St w [] [] w':=by
 have H:=St.nil w [];unfold xF yY;by_cases h:r.kind=3
 ·rw [if_pos h];have h2:((r.kind:Int)==3)=true:=(by simp;omega);clear h;go_enter Tryz.func173,Tryz.ntmps173;go_wp2_with (first|refine sL ?_|(refine sS ?_;clear H;intros;rename_i H));go_ret;exact ⟨rfl,H.nix⟩
 ·rw [if_neg h];have h2:((r.kind:Int)==3)=false:=(by simp;omega);clear h;go_enter Tryz.func173,Tryz.ntmps173;go_wp2_with (first|refine sL ?_|(refine sS ?_;clear H;intros;rename_i H));go_ret;exact ⟨rfl,H.nix⟩
theorem far_c (f:Fr) (bk:Bool) (w:World):Calls zb 159 #[.agg #[.int .i64 f.id,.int .i64 f.r.kind,.int .u8 f.r.letter,.int .i64 f.r.left,.int .i64 f.r.right,.int .i64 f.r.times,.int .i64 f.lev,.int .i64 f.hv],.bool bk] w fun e w'=>e=.returned (.int .i64 (farN bk f))∧St w [] [] w':=by
 have H:=St.nil w [];unfold farN;by_cases h:f.r.kind=2
 ·have h2:((f.r.kind:Int)==2)=true:=(by simp;omega);cases bk with
  |true =>
   rw [if_pos ⟨h,rfl⟩];clear h;go_enter Tryz.func159,Tryz.ntmps159;go_wp2_with (first|refine sL ?_|(refine sS ?_;clear H;intros;rename_i H));go_ret;exact ⟨rfl,H.nix⟩
  |false =>
   rw [if_neg (by simp)];clear h;go_enter Tryz.func159,Tryz.ntmps159;go_wp2_with (first|refine sL ?_|(refine sS ?_;clear H;intros;rename_i H));go_ret;exact ⟨rfl,H.nix⟩
 ·rw [if_neg (fun e=>h e.1)];have h2:((f.r.kind:Int)==2)=false:=(by simp;omega);clear h;go_enter Tryz.func159,Tryz.ntmps159;go_wp2_with (first|refine sL ?_|(refine sS ?_;clear H;intros;rename_i H));go_ret;exact ⟨rfl,H.nix⟩
theorem QU (f:Fr) (bk:Bool) (w:World):Calls zb 160 #[.agg #[.int .i64 f.id,.int .i64 f.r.kind,.int .u8 f.r.letter,.int .i64 f.r.left,.int .i64 f.r.right,.int .i64 f.r.times,.int .i64 f.lev,.int .i64 f.hv],.bool bk] w fun e w'=>e=.returned (.int .i64 (jR bk f))∧St w [] [] w':=by
 have H:=St.nil w [];unfold jR;by_cases h:f.r.kind=2
 ·have h2:((f.r.kind:Int)==2)=true:=(by simp;omega);by_cases h3:f.hv=2
  ·have h4:((f.hv:Int)==2)=true:=(by simp;omega);have h5:((f.hv:Int)==1)=false:=(by simp;omega);cases bk with
   |false =>
    rw [if_pos ⟨h,.inl ⟨h3,rfl⟩⟩];clear h h3;go_enter vd,ko;go_wp2_with (first|refine sL ?_|(refine sS ?_;clear H;intros;rename_i H));go_ret;exact ⟨rfl,H.nix⟩
   |true =>
    rw [if_neg (by rintro ⟨_,⟨_,e⟩|⟨e,_⟩⟩;cases e;omega)];clear h h3;go_enter vd,ko;go_wp2_with (first|refine sL ?_|(refine sS ?_;clear H;intros;rename_i H));go_ret;exact ⟨rfl,H.nix⟩
  ·have h4:((f.hv:Int)==2)=false:=(by simp;omega);by_cases h6:f.hv=1
   ·have h5:((f.hv:Int)==1)=true:=(by simp;omega);cases bk with
    |false =>
     rw [if_neg (by rintro ⟨_,⟨e,_⟩|⟨_,e⟩⟩;omega;cases e)];clear h h3 h6;go_enter vd,ko;go_wp2_with (first|refine sL ?_|(refine sS ?_;clear H;intros;rename_i H));go_ret;exact ⟨rfl,H.nix⟩
    |true =>
     rw [if_pos ⟨h,.inr ⟨h6,rfl⟩⟩];clear h h3 h6;go_enter vd,ko;go_wp2_with (first|refine sL ?_|(refine sS ?_;clear H;intros;rename_i H));go_ret;exact ⟨rfl,H.nix⟩
   ·have h5:((f.hv:Int)==1)=false:=(by simp;omega);rw [if_neg (by rintro ⟨_,⟨e,_⟩|⟨e,_⟩⟩ <;> omega)];clear h h3 h6;go_enter vd,ko;go_wp2_with (first|refine sL ?_|(refine sS ?_;clear H;intros;rename_i H));go_ret;exact ⟨rfl,H.nix⟩
 ·have h2:((f.r.kind:Int)==2)=false:=(by simp;omega);rw [if_neg (fun e=>h e.1)];clear h;go_enter vd,ko;go_wp2_with (first|refine sL ?_|(refine sS ?_;clear H;intros;rename_i H));go_ret;exact ⟨rfl,H.nix⟩
theorem size_p {X:Px} {id:Nat} {t:Tr} (hX:zK X) (hd:Den X.S id t) (w:World) (h:(pA X).ho w):Calls zb 92 #[.pointer (some ⟨X.p,0,none⟩),.int .i64 id] w fun e w'=>e=.returned (.int .i64 t.len)∧St w [] [] w':=by
 obtain ⟨i,x,rfl,hx,ht⟩:=xZ hd;have hl:=(j1 hX.ok i x hx).1;rw [ht] at hl;rw [hl];have HK:=Ks.one h;have H:=St.nil w [];have HW:Hid (∀ w,(pA X).ho w->Calls zb 40 #[.pointer (some ⟨X.s,0,none⟩),.int .i64 ((i:Int)+1)] w fun e w'=>e=.returned (.tuple #[.agg #[.int .i64 x.w.len,.int .i64 x.w.lines,.int .i64 x.w.head,.int .i64 x.w.tail,.int .u64 x.w.val,.int .u64 x.w.scale],.nilIface])∧St w [] [] w'):=zh fun w h=>by
  exact km (i:=i+1) hx w (jh h)
 have HS:Hid (∀ w,(pA X).ho w->Calls zb 53 #[.pointer (some ⟨X.p,0,none⟩)] w fun e w'=>e=.returned (.pointer (some ⟨X.s,0,none⟩))∧w'=w):=zh fun w h=>jH w h
 clear hl ht hx hd hX h;go_enter Tryz.func92,Tryz.ntmps92;go_wp2_with (first|refine sL ?_|(refine sS ?_;clear H;intros;rename_i H)|(go_at_call 53;refine same (HS.out _ (H.known HK pk)) ?_)|(go_at_call 40;with_reducible refine zm (HW.out _ (H.known HK pk)) ?_;rintro e wc ⟨rfl,hb⟩;replace H:=H.grew hb.below;clear hb));go_ret;exact ⟨rfl,H.nix⟩
end
section
open Go.RowKit Go.Maps
attribute [local go_sem] qt
attribute [local go_sem] StStep jw yM in
theorem open_c {X:Px} {b o id i a:Nat} {x:En} {t:Tr} {Y:As} (hX:zK X) (hd:Den X.S id t) (hl:t.lev=some a) (hi:id=i+1) (hx:X.S.list[i]?=some x) (hcp:∀ w,Y.ho w->w.cell? ⟨b,o,none⟩=some (.pointer (some ⟨X.p,0,none⟩))) (hci:∀ w,Y.ho w->w.cell? ⟨b,o+3,none⟩=some (.int .i64 id)) (w:World) (h1:((pA X).sep deA).ho w) (h2:((pA X).sep Y).ho w) :
  Calls zb 158 #[.pointer (some ⟨b,o,none⟩)] w (jL X (.agg #[.int .i64 id,.int .i64 x.r.kind,.int .u8 x.r.letter,.int .i64 x.r.left,.int .i64 x.r.right,.int .i64 x.r.times,.int .i64 a,.int .i64 (xF x.r:Nat)]) (pA X).fp w):=by
 rw [qz] at h1 h2;have H:=St.one h1.1;have HK:Ks w (pA X).fp [deA,Y]:=⟨fun A hA=>by
   simp at hA;rcases hA with rfl|rfl
   ·exact h1.2.1
   ·exact h2.2.1,fun A hA b hbA hm=>by
   simp at hA;rcases hA with rfl|rfl
   ·exact h1.2.2 b hm hbA
   ·exact h2.2.2 b hm hbA⟩
 have HSP:Hid (∀ w,(pA X).ho w->Calls zb 53 #[.pointer (some ⟨X.p,0,none⟩)] w fun e w'=>e=.returned (.pointer (some ⟨X.s,0,none⟩))∧w'=w):=zh fun w h=>jH w h
 have HKP:Hid (∀ w,(pA X).ho w->Calls zb 174 #[.pointer (some ⟨X.p,0,none⟩)] w fun e w'=>e=.returned (.pointer (some ⟨X.K.t,0,none⟩))∧w'=w):=zh fun w h=>Wj w h
 have HRU:Hid (∀ w,(pA X).ho w->Calls zb 68 #[.pointer (some ⟨X.s,0,none⟩),.int .i64 id] w fun e w'=>e=.returned (.tuple #[.agg #[.int .i64 x.r.kind,.int .u8 x.r.letter,.int .i64 x.r.left,.int .i64 x.r.right,.int .i64 x.r.times],.nilIface])∧St w [] [] w'):=zh fun w h=>YK hx id (by omega) w (jh h)
 have HLV:Hid (∀ w,((pA X).sep deA).ho w->Calls zb 122 #[.pointer (some ⟨X.K.t,0,none⟩),.int .i64 id] w (jL X (.tuple #[.int .i64 a,.nilIface]) (pA X).fp w)):=zh fun w h=>by
  have:=level_p hX hd w h;rw [hl] at this;exact this
 have HWH:Hid (∀ w,Calls zb 173 #[.agg #[.int .i64 x.r.kind,.int .u8 x.r.letter,.int .i64 x.r.left,.int .i64 x.r.right,.int .i64 x.r.times]] w fun e w'=>e=.returned (.int .i64 (xF x.r:Nat))∧St w [] [] w'):=zh fun w=>whole_c x.r w
 have HCP:=zh hcp;have HCI:=zh hci;generalize (pA X).fp=M at H HK ⊢;clear h1 h2 hX hd hl hi hx hcp hci;go_enter Tryz.func158,Tryz.ntmps158;go_wp2_with (first|refine sL ?_|(refine sS ?_;clear H;intros;rename_i H));rename_i b2 _ _ _;replace H:St w M [pA X,blk b2 (.cells #[.int .i64 0,.int .i64 0,.int .u8 0,.int .i64 0,.int .i64 0,.int .i64 0,.int .i64 0,.int .i64 0] 265)] _:=H.picks (.cons pk (.cons pk .nil));refine zM 16 [⟨[],fun v _=>v=.pointer (some ⟨b,o,none⟩)⟩,⟨[0],fun v _=>v=.pointer (some ⟨b,o,none⟩)⟩,⟨[1],fun v _=>v=.pointer (some ⟨b,o,none⟩)⟩,⟨[2],fun v _=>v=.pointer (some ⟨X.p,0,none⟩)⟩,⟨[3],fun v _=>v=.pointer (some ⟨X.s,0,none⟩)⟩,⟨[],fun v _=>v=.pointer (some ⟨b,o,none⟩)⟩,⟨[5],fun v _=>v=.pointer (some ⟨b,o,none⟩)⟩,⟨[6],fun v _=>v=.pointer (some ⟨b,o+3,none⟩)⟩,⟨[7],fun v _=>v=.int .i64 id⟩,⟨[4,8],fun v _=>v=.tuple #[.agg #[.int .i64 x.r.kind,.int .u8 x.r.letter,.int .i64 x.r.left,.int .i64 x.r.right,.int .i64 x.r.times],.nilIface]⟩,⟨[9],fun v _=>v=.tuple #[.agg #[.int .i64 x.r.kind,.int .u8 x.r.letter,.int .i64 x.r.left,.int .i64 x.r.right,.int .i64 x.r.times],.nilIface]⟩,⟨[10],fun v _=>v=.agg #[.int .i64 x.r.kind,.int .u8 x.r.letter,.int .i64 x.r.left,.int .i64 x.r.right,.int .i64 x.r.times]⟩,⟨[10],fun v _=>v=.nilIface⟩,⟨[],fun v _=>∃ b3:Nat,v=.pointer (some ⟨b3,0,none⟩)⟩,⟨[11,13],fun _ _=>True⟩,⟨[12],fun v _=>v=.nilIface⟩] [13,14] [[0,1],[0,1],[0,1],[0,1],[0,1],[0,1],[0,1],[0,1],[0,1],[0,1],[0,1],[0,1],[0,1,2],[0],[1],[2]] [fun _ wx=>St w M [pA X,blk b2 (.cells #[.int .i64 0,.int .i64 0,.int .u8 0,.int .i64 0,.int .i64 0,.int .i64 0,.int .i64 0,.int .i64 0] 265)] wx,fun vals wx=>∃ b3:Nat,vals 13=.pointer (some ⟨b3,0,none⟩)∧St w M [blk b3 (.cells #[.int .i64 0,.int .u8 0,.int .i64 0,.int .i64 0,.int .i64 0] 131),pA X,blk b2 (.cells #[.int .i64 0,.int .i64 0,.int .u8 0,.int .i64 0,.int .i64 0,.int .i64 0,.int .i64 0,.int .i64 0] 265)] wx,fun vals wx=>∃ b3:Nat,vals 13=.pointer (some ⟨b3,0,none⟩)∧St w M [blk b3 (.cells #[.int .i64 x.r.kind,.int .u8 x.r.letter,.int .i64 x.r.left,.int .i64 x.r.right,.int .i64 x.r.times] 131),pA X,blk b2 (.cells #[.int .i64 0,.int .i64 0,.int .u8 0,.int .i64 0,.int .i64 0,.int .i64 0,.int .i64 0,.int .i64 0] 265)] wx]
  [[],[(0,8)],[(1,9)],[(2,10)],[(3,11)],[],[(5,13)],[(6,14)],[(7,15)],[(4,12),(8,16)],[(9,17)],[(10,7)],[(10,7)],[],[(11,18),(13,3)],[(12,19)]] [(0,8),(1,9),(2,10),(3,11),(4,12),(5,13),(6,14),(7,15),(8,16),(9,17),(10,7),(11,18),(12,19),(13,3),(15,4)] (by kernel_rfl) (by kernel_rfl) H.drew ⟨⟨qo,qo,trivial⟩,⟨qo,qo,trivial⟩,⟨qo,qo,trivial⟩,⟨ql,ql,trivial⟩,⟨?_,?_,trivial⟩,⟨qo,qo,trivial⟩,⟨qo,qo,trivial⟩,⟨qo,qo,trivial⟩,⟨ql,ql,trivial⟩,⟨?_,?_,trivial⟩,⟨qo,qo,trivial⟩,⟨qo,qo,trivial⟩,⟨qo,qo,qo,trivial⟩,⟨?_,trivial⟩,⟨?_,trivial⟩,⟨qo,trivial⟩,trivial⟩ ?_
 ·intro vals wx hd HC;simp only [GF] at hd;have h3:=hd;clear hd;have H:=HC;simp only [CA] at H;simp only [PS,h3];clear h3;go_simp;with_reducible refine zm (HSP.out _ (H.get pk)) ?_
  rintro e wc ⟨rfl,rfl⟩;first|exact ⟨_,rfl,rfl,HC⟩|exact ⟨_,rfl,HC⟩
 ·intro vals wx hd HC;simp only [GF] at hd;have h3:=hd;clear hd;have H:=HC;simp only [CA] at H;obtain ⟨b3,hv,H⟩:=H;simp only [PS,h3];clear h3;go_simp;with_reducible refine zm (HSP.out _ (H.get pk)) ?_
  rintro e wc ⟨rfl,rfl⟩;first|exact ⟨_,rfl,rfl,HC⟩|exact ⟨_,rfl,HC⟩
 ·intro vals wx hd HC;simp only [GF] at hd;obtain ⟨h4,h8⟩:=hd;have H:=HC;simp only [CA] at H;simp only [PS,h4,h8];clear h4 h8 HC;go_simp;with_reducible refine zm (HRU.out _ (H.get pk)) ?_
  rintro e wc ⟨rfl,hb⟩;replace H:=H.grew hb.below;exact ⟨_,rfl,rfl,H⟩
 ·intro vals wx hd HC;simp only [GF] at hd;obtain ⟨h4,h8⟩:=hd;have H:=HC;simp only [CA] at H;obtain ⟨b3,hv,H⟩:=H;simp only [PS,h4,h8];clear h4 h8 HC;go_simp;with_reducible refine zm (HRU.out _ (H.get pk)) ?_
  rintro e wc ⟨rfl,hb⟩;replace H:=H.grew hb.below;exact ⟨_,rfl,rfl,⟨b3,hv,H⟩⟩
 ·intro vals wx hd HC;clear hd;have H:=HC;simp only [CA] at H;simp only [PS];clear HC;refine StStep.allocT H rfl rfl rfl rfl ?_;intro b3 wz H;exact ⟨⟨b3,rfl⟩,b3,rfl,H⟩
 ·intro vals wx hd HC;simp only [GF] at hd;obtain ⟨h11,h13⟩:=hd;have H:=HC;simp only [CA] at H;obtain ⟨b3,hv,H⟩:=H;simp only [PS,h11,hv,h11];refine StStep.storeT rfl rfl rfl rfl rfl rfl H rfl ?_;intro wz H;exact ⟨trivial,b3,hv,H⟩
 intro vals wx hd HC;have h13:=hd.2.2.2.2.2.2.2.2.2.2.2.2.2.1;simp only [CA] at HC;obtain ⟨b3,hv,H⟩:=HC;simp only [GF] at hd;simp only [PS,hd];clear hd;simp only [hv];clear hv;go_wp2_with (first|refine sL ?_|(refine sS ?_;clear H;intros;rename_i H));replace H:St w M [pA X,blk b3 (.cells #[.int .i64 x.r.kind,.int .u8 x.r.letter,.int .i64 x.r.left,.int .i64 x.r.right,.int .i64 x.r.times] 131),blk b2 (.cells #[.int .i64 0,.int .i64 0,.int .u8 0,.int .i64 0,.int .i64 0,.int .i64 0,.int .i64 0,.int .i64 0] 265)] _:=H.picks (.cons pk (.cons pk (.cons pk .nil)));refine zM 15 [⟨[],fun v _=>v=.pointer (some ⟨b,o,none⟩)⟩,⟨[0],fun v _=>v=.pointer (some ⟨b,o,none⟩)⟩,⟨[1],fun v _=>v=.pointer (some ⟨b,o,none⟩)⟩,⟨[2],fun v _=>v=.pointer (some ⟨X.p,0,none⟩)⟩,⟨[3],fun v _=>v=.pointer (some ⟨X.K.t,0,none⟩)⟩,⟨[],fun v _=>v=.pointer (some ⟨b,o,none⟩)⟩,⟨[5],fun v _=>v=.pointer (some ⟨b,o,none⟩)⟩,⟨[6],fun v _=>v=.pointer (some ⟨b,o+3,none⟩)⟩,⟨[7],fun v _=>v=.int .i64 id⟩,⟨[4,8],fun v _=>v=.tuple #[.int .i64 a,.nilIface]⟩,⟨[9],fun v _=>v=.tuple #[.int .i64 a,.nilIface]⟩,⟨[10],fun v _=>v=.int .i64 a⟩,⟨[10],fun v _=>v=.nilIface⟩,⟨[11],fun v _=>v=.int .i64 a⟩,⟨[12],fun v _=>v=.nilIface⟩] [9] [[0],[0],[0],[0],[0],[0],[0],[0],[0],[0],[1],[1],[1],[1],[1]] [fun _ wx=>St w M [pA X,blk b3 (.cells #[.int .i64 x.r.kind,.int .u8 x.r.letter,.int .i64 x.r.left,.int .i64 x.r.right,.int .i64 x.r.times] 131),blk b2 (.cells #[.int .i64 0,.int .i64 0,.int .u8 0,.int .i64 0,.int .i64 0,.int .i64 0,.int .i64 0,.int .i64 0] 265)] wx,fun _ wx=>∃ X2:Px,(X.Ext X2∧zK X2∧X2.S=X.S)∧St w M [pA X2,blk b3 (.cells #[.int .i64 x.r.kind,.int .u8 x.r.letter,.int .i64 x.r.left,.int .i64 x.r.right,.int .i64 x.r.times] 131),blk b2 (.cells #[.int .i64 0,.int .i64 0,.int .u8 0,.int .i64 0,.int .i64 0,.int .i64 0,.int .i64 0,.int .i64 0] 265)] wx]
  [[],[(0,21)],[(1,22)],[(2,23)],[(3,24)],[],[(5,26)],[(6,27)],[(7,28)],[(4,25),(8,29)],[(9,30)],[(10,20)],[(10,20)],[(11,31)],[(12,32)]] [(0,21),(1,22),(2,23),(3,24),(4,25),(5,26),(6,27),(7,28),(8,29),(9,30),(10,20),(11,31),(12,32),(13,5),(14,6)] (by kernel_rfl) (by kernel_rfl) H.drew ⟨⟨qo,trivial⟩,⟨qo,trivial⟩,⟨qo,trivial⟩,⟨ql,trivial⟩,⟨?_,trivial⟩,⟨qo,trivial⟩,⟨qo,trivial⟩,⟨qo,trivial⟩,⟨ql,trivial⟩,⟨?_,trivial⟩,⟨qo,trivial⟩,⟨qo,trivial⟩,⟨qo,trivial⟩,⟨qo,trivial⟩,⟨qo,trivial⟩,trivial⟩ ?_
 ·intro vals wx hd HC;simp only [GF] at hd;have h3:=hd;clear hd;have H:=HC;simp only [CA] at H;simp only [PS,h3];clear h3;go_simp;with_reducible refine zm (HKP.out _ (H.get pk)) ?_
  rintro e wc ⟨rfl,rfl⟩;first|exact ⟨_,rfl,rfl,HC⟩|exact ⟨_,rfl,HC⟩
 ·intro vals wx hd HC;simp only [GF] at hd;obtain ⟨h4,h8⟩:=hd;have H:=HC;simp only [CA] at H;simp only [PS,h4,h8];clear h4 h8 HC;go_simp;with_reducible refine zm (HLV.out _ (H.sepK HK pk pk)) ?_
  rintro e wc ⟨X2,y1,y2,y3,rfl,hb⟩;have H2:=(H.pick pk).call hb;exact ⟨_,rfl,rfl,X2,⟨y1,y2,y3⟩,by simpa using H2⟩
 intro vals wx hd HC;simp only [CA] at HC;obtain ⟨X2,hX2,H⟩:=HC;simp only [GF] at hd;simp only [PS,hd];clear hd;have HY:=zh hX2;clear hX2;go_wp2_with (first|refine sL ?_|(refine sS ?_;clear H;intros;rename_i H));refine zG H 9 [] [] (by kernel_rfl) (by kernel_rfl) ?_;apply Exists.intro;refine ⟨fun w1 hw1 HX=>?_,fun bs wr Hr=>?_⟩
 ·refine sG ?_;repeat (first|go_big_quiet_skip|refine sQ ?_|((with_reducible refine yp ?_);(refine QtLoad.cel rfl rfl rfl rfl (fun y=>HCI.out _ ((HX y).known HK pk)) ?_;simp only [Act.put,puA,puB,puC]))|go_big_quiet_step ((go_at_call 173;with_reducible exact wL (HWH.out _)))|go_big_quiet_step (fail))
  exact wpQuiet_nil rfl
 clear H;have H:=Hr;clear Hr;replace H:=sH H;refine sT ?_;go_wp2_with (first|refine sL ?_|(refine sS ?_;clear H;intros;rename_i H));refine bodyPost_ret (xR rfl H rfl pk rfl) rfl ?_;exact ⟨X2,HY.out.1,HY.out.2.1,HY.out.2.2,rfl,H.picks (.cons pk .nil)⟩
end
section
structure FrOf (S:Sto) (bk:Bool) (q:Tr×Nat) (f:Fr):Prop where
 den:Den S f.id q.1
 lev:q.1.lev=some f.lev
 rule:∃ i x,f.id=i+1∧S.list[i]?=some x∧f.r=x.r
 lt:q.2<(zR q.1).length
 hv:f.hv=if bk then (zR q.1).length-q.2 else q.2+1
theorem FrOf.le {S S':Sto} {bk:Bool} {q:Tr×Nat} {f:Fr} (h:FrOf S bk q f) (hS:S.Ok) (hl:S.Le S'):FrOf S' bk q f:=by
 obtain ⟨i,x,h1,h2,h3⟩:=h.rule;exact ⟨h.den.le hS hl,h.lev,⟨i,x,h1,hl.get h2,h3⟩,h.lt,h.hv⟩
theorem jX {S:Sto} (hS:S.Ok) {i:Nat} {x:En} {t:Tr} (hx:S.list[i]?=some x) (ht:S.tr (i+1)=t) (hk:0<(zR t).length) :
  xF x.r=(zR t).length∧((∃ l r u v,x.r=⟨2,0,l,r,0⟩∧t=.pair u v∧Den S l u∧Den S r v)∨(∃ l u k,x.r=⟨3,0,l,0,k⟩∧t=.pow u k∧2<=k∧Den S l u)):=by
 cases xh hS hx with
 |letter b hb hr hw h1 =>
  rw [← ht,h1] at hk;simp [zR] at hk
 |pair l r y z hl hr hy hz he hw hs h1 =>
  rw [h1] at ht;subst ht;refine ⟨by rw [he];rfl,.inl ⟨l+1,r+1,_,_,he,rfl,Kh hy,Kh hz⟩⟩
 |pow l k y hl hy h2 he hw hs h1 =>
  rw [h1] at ht;subst ht;refine ⟨by rw [he];simp [xF,zR],.inr ⟨l+1,_,k,he,rfl,h2,Kh hy⟩⟩
theorem FrOf.child {S:Sto} (hS:S.Ok) {bk:Bool} {q:Tr×Nat} {f:Fr} (h:FrOf S bk q f):∃ c,(zR q.1)[q.2]?=some c∧Den S (jR bk f) c:=by
 obtain ⟨t,j⟩:=q;obtain ⟨i,x,e1,hx,e2⟩:=h.rule;have hd:=h.den;have hlt:=h.lt;have hhv:=h.hv;simp only at hd hlt hhv;rw [e1] at hd;obtain ⟨_,hc⟩:=jX hS hx hd.2.2 (by omega);rcases hc with ⟨l,r,u,v,he,rfl,du,dv⟩|⟨l,u,k,he,rfl,hk,du⟩
 ·simp only [zR,zw,zC] at hlt hhv;have hj:j=0∨j=1:=(by omega);rcases hj with rfl|rfl
  ·refine ⟨u,rfl,?_⟩;unfold jR;rw [e2,he];cases bk with
   |false=>simp only [xA,if_false] at hhv;rw [if_neg (by simp [hhv])];exact du
   |true=>simp only [if_true] at hhv;rw [if_neg (by simp [hhv])];exact du
  ·refine ⟨v,rfl,?_⟩;unfold jR;rw [e2,he];cases bk with
   |false=>simp only [xA,if_false] at hhv;rw [if_pos (by simp [hhv])];exact dv
   |true=>simp only [if_true] at hhv;rw [if_pos (by simp [hhv])];exact dv
 ·simp only [zR,qr] at hlt;refine ⟨u,by simp [zR,x4,hlt],?_⟩;unfold jR;rw [e2,he,if_neg (by simp)];exact du
theorem far_den {S:Sto} (hS:S.Ok) {bk:Bool} {t:Tr} {f:Fr} (hd:Den S f.id t) (hr:∃ i x,f.id=i+1∧S.list[i]?=some x∧f.r=x.r) (hk:0<(zR t).length):∃ c,(zR t)[if bk then (zR t).length-1 else 0]?=some c∧Den S (farN bk f) c:=by
 obtain ⟨i,x,e1,hx,e2⟩:=hr;rw [e1] at hd;obtain ⟨_,hc⟩:=jX hS hx hd.2.2 hk;rcases hc with ⟨l,r,u,v,he,rfl,du,dv⟩|⟨l,u,k,he,rfl,hk2,du⟩
 ·unfold farN;rw [e2,he];cases bk with
  |false=>exact ⟨u,rfl,by rw [if_neg (by simp)];exact du⟩
  |true=>exact ⟨v,rfl,by rw [if_pos (by simp)];exact dv⟩
 ·unfold farN;rw [e2,he,if_neg (show ¬ ((3:Nat)=2∧bk=true) from fun e=>by have:=e.1;omega)];refine ⟨u,?_,du⟩;simp only [zR,qr,x4];rw [if_pos (by cases bk <;> simp <;> omega)]
theorem FrOf.open_ {S:Sto} (hS:S.Ok) {bk:Bool} {id i a:Nat} {x:En} {t:Tr} (hd:Den S id t) (hi:id=i+1) (hx:S.list[i]?=some x) (hl:t.lev=some a) (hk:0<(zR t).length):FrOf S bk (t,if bk then 0 else (zR t).length-1) ⟨id,x.r,a,xF x.r⟩:=by
 subst hi;obtain ⟨hw,_⟩:=jX hS hx hd.2.2 hk;refine ⟨hd,hl,⟨i,x,rfl,hx,rfl⟩,?_,?_⟩
 ·simp only;split <;> omega
 ·simp only;rw [hw];cases bk <;> simp;omega
end
section
open Go.RowKit Go.Maps
structure EndAt (cs:Array Value) (o p:Nat) (bk:Bool) (pv:Value) (id ky:Nat):Prop where
 sz:o+5<=cs.size
 c0:cs[o]?=some (.pointer (some ⟨p,0,none⟩))
 c1:cs[o+1]?=some (.bool bk)
 c2:cs[o+2]?=some pv
 c3:cs[o+3]?=some (.int .i64 id)
 c4:cs[o+4]?=some (.int .u64 ky)
structure AlikeBut (cs cs':Array Value) (o:Nat):Prop where
 size:cs'.size=cs.size
 eq:∀ j,j<o∨o+5<=j->cs'[j]?=cs[j]?
theorem AlikeBut.refl (cs:Array Value) (o:Nat):AlikeBut cs cs o:=⟨rfl,fun _ _=>rfl⟩
theorem AlikeBut.trans {a b c:Array Value} {o:Nat} (h:AlikeBut a b o) (k:AlikeBut b c o):AlikeBut a c o:=⟨k.size.trans h.size,fun j hj=>(k.eq j hj).trans (h.eq j hj)⟩
theorem AlikeBut.set (cs:Array Value) (o j:Nat) (v:Value) (h1:o<=j) (h2:j<o+5):AlikeBut cs (cs.setIfInBounds j v) o:=⟨by simp,fun i hi=>by rw [zz (by omega)]⟩
theorem EndAt.other {cs cs':Array Value} {o o' p:Nat} {bk:Bool} {pv:Value} {id ky:Nat} (h:EndAt cs o p bk pv id ky) (ha:AlikeBut cs cs' o') (hd:o+5<=o'∨o'+5<=o):EndAt cs' o p bk pv id ky :=
 ⟨by rw [ha.size];exact h.sz,by rw [ha.eq _ (by omega)];exact h.c0,by rw [ha.eq _ (by omega)];exact h.c1,by rw [ha.eq _ (by omega)];exact h.c2,by rw [ha.eq _ (by omega)];exact h.c3,by rw [ha.eq _ (by omega)];exact h.c4⟩
theorem EndAt.setPath {cs:Array Value} {o p:Nat} {bk:Bool} {pv:Value} {id ky:Nat} (h:EndAt cs o p bk pv id ky) (pv':Value):EndAt (cs.setIfInBounds (o+2) pv') o p bk pv' id ky:=by
 have hs:=h.sz;refine ⟨by simpa using hs,?_,?_,?_,?_,?_⟩
 ·rw [zz (by omega)];exact h.c0
 ·rw [zz (by omega)];exact h.c1
 ·rw [wO (by omega)]
 ·rw [zz (by omega)];exact h.c3
 ·rw [zz (by omega)];exact h.c4
theorem EndAt.setId {cs:Array Value} {o p:Nat} {bk:Bool} {pv:Value} {id ky:Nat} (h:EndAt cs o p bk pv id ky) (id':Nat):EndAt (cs.setIfInBounds (o+3) (.int .i64 id')) o p bk pv id' ky:=by
 have hs:=h.sz;refine ⟨by simpa using hs,?_,?_,?_,?_,?_⟩
 ·rw [zz (by omega)];exact h.c0
 ·rw [zz (by omega)];exact h.c1
 ·rw [zz (by omega)];exact h.c2
 ·rw [wO (by omega)]
 ·rw [zz (by omega)];exact h.c4
theorem EndAt.setKey {cs:Array Value} {o p:Nat} {bk:Bool} {pv:Value} {id ky:Nat} (h:EndAt cs o p bk pv id ky) (ky':Nat):EndAt (cs.setIfInBounds (o+4) (.int .u64 ky')) o p bk pv id ky':=by
 have hs:=h.sz;refine ⟨by simpa using hs,?_,?_,?_,?_,?_⟩
 ·rw [zz (by omega)];exact h.c0
 ·rw [zz (by omega)];exact h.c1
 ·rw [zz (by omega)];exact h.c2
 ·rw [zz (by omega)];exact h.c3
 ·rw [wO (by omega)]
def ze (f:Fr):List Value:=f.cells
theorem xM:∀ f,(ze f).length=8:=fun _=>rfl
theorem ZU:∀ f,∀ u∈ze f,u.oneCell'=true:=by
 intro f u hu;simp [ze,Fr.cells] at hu;rcases hu with rfl|rfl|rfl|rfl|rfl|rfl|rfl|rfl <;> rfl
def PathOf (S:Sto) (bk:Bool):List (Tr×Nat)->List Fr->Prop
 |[],fs=>fs=[]
 |q::p,fs=>∃ fs' f,fs=fs'++[f]∧FrOf S bk q f∧PathOf S bk p fs'
theorem PathOf.le {S S':Sto} {bk:Bool} (hS:S.Ok) (hl:S.Le S'):∀ {p:List (Tr×Nat)} {fs:List Fr},PathOf S bk p fs->PathOf S' bk p fs
 |[],_,h=>h
 |_::_,_,⟨fs',f,h1,h2,h3⟩=>⟨fs',f,h1,h2.le hS hl,PathOf.le hS hl h3⟩
theorem PathOf.len {S:Sto} {bk:Bool}:∀ {p:List (Tr×Nat)} {fs:List Fr},PathOf S bk p fs->fs.length=p.length
 |[],_,h=>by rw [h];rfl
 |_::p,_,⟨fs',f,h1,h2,h3⟩=>by rw [h1,zi,PathOf.len h3];rfl
end
section
open Go.RowKit Go.Maps
attribute [local go_sem] qt
theorem StStep.storeC {ops:Array Oper} {a:Act} {w w0:World} {M:List Nat} {L:List As} {o:Oper} {Rr:Value->World->Prop} {ty:TypeId} {x y:Operand} {g j:Nat} (hw:Region.wanted o (yielded ops a.tmps)=true) (ho:o.op=.store ty x y) (hx:a.eval x=.pointer (some ⟨g,j,none⟩)) {v:Value} (hr:je ty=true) (hy:yU a y=some v) (h1:v.oneCell'=true)
  {cs:Array Value} {t:TypeId} (H:St w0 M (blk g (.cells cs t)::L) w) (hl:j<cs.size) (h:∀ w',St w0 M (blk g (.cells (cs.setIfInBounds j v) t)::L) w'->Rr undef w'):StStep zb ops o a w Rr:=by
 unfold StStep;rw [if_pos hw];have hc:v.cells=#[v]:=(by cases v <;> first|rfl|cases h1);have hg:w.heap[g]?=some (.cells cs t):=H.at Pick.here;have hr':=ks (P:=zb) w g j t ty cs v hg (by rw [hc];exact qL (qB hr)) (by rw [hc];simp;omega) (fun u hu=>by rw [hc] at hu;simp at hu;subst hu;exact h1);have e:(cs.toList.take j++v.cells.toList++cs.toList.drop (j+v.cells.size)).toArray=cs.setIfInBounds j v:=by
  rw [hc];apply Array.ext';simp only [Array.toList_setIfInBounds];rw [List.set_eq_take_append_cons_drop,if_pos (by simpa using hl)];simp
 rw [e] at hr';unfold jw execOp;simp only [ho,hx,yg hy,Instr.storeAt,Instr.sureAddr,Sem.run_bind,Sem.run_pure,Result.andThen_ok,hr'];exact h _ (H.setRow Upd.here)
theorem downT_step {bk:Bool} {m:Nat} {p:List (Tr×Nat)} {t c:Tr} (hl:m<t.lv) (hc:(zR t)[if bk then 0 else (zR t).length-1]?=some c):yF bk m p t=yF bk m ((t,if bk then 0 else (zR t).length-1)::p) c:=by
 cases t with
 |leaf b=>simp [zR] at hc
 |pair l r =>
  rw [yF,if_neg (by omega)];cases bk with
  |true=>simp [zR] at hc;subst hc;simp
  |false=>simp [zR] at hc;subst hc;simp [zR]
 |pow s k =>
  rw [yF,if_neg (by omega)];have:c=s:=xy (zy hc);subst this;simp [zR]
theorem downT_end {bk:Bool} {m:Nat} {p:List (Tr×Nat)} {t:Tr} (hl:t.lv<=m):yF bk m p t=(p,t):=by
 cases t with
 |leaf b=>rfl
 |pair l r=>rw [yF,if_pos hl]
 |pow s k=>rw [yF,if_pos hl]
structure DownIn (X X':Px) (bk:Bool) (m o lim:Nat) (p:List (Tr×Nat)) (x:Tr) (cs cs':Array Value) (pv':Value) (fs':List Fr) (p':List (Tr×Nat)) (x':Tr) (f:Fr) (ky:Nat):Prop where
 ext:X.Ext X'
 ok:zK X'
 same:X'.S=X.S
 at_:EndAt cs' o X.p bk pv' f.id ky
 alike:AlikeBut cs cs' o
 path:PathOf X'.S bk p' fs'
 den:Den X'.S f.id x'
 gd:x'.Gd
 lev:x'.lev=some f.lev
 rule:∃ i en,f.id=i+1∧X'.S.list[i]?=some en∧f.r=en.r
 hv:f.hv=xF f.r
 way:yF bk m p' x'=yF bk m p x
 room:fs'.length+x'.lv<=lim
theorem DownIn.fr {X X':Px} {bk:Bool} {m o lim:Nat} {p:List (Tr×Nat)} {x:Tr} {cs cs':Array Value} {pv':Value} {fs':List Fr} {p':List (Tr×Nat)} {x':Tr} {f:Fr} {ky:Nat} (h:DownIn X X' bk m o lim p x cs cs' pv' fs' p' x' f ky) (hl:m<f.lev) :
  FrOf X'.S bk (x',if bk then 0 else (zR x').length-1) f∧∃ c,(zR x')[if bk then 0 else (zR x').length-1]?=some c∧Den X'.S (jR bk f) c∧c.Gd∧c.lv<x'.lv:=by
 obtain ⟨i,en,h1,h2,h3⟩:=h.rule;have hk:2<=(zR x').length:=Vv h.gd (by rw [wv h.lev];omega);have hfr:FrOf X'.S bk (x',if bk then 0 else (zR x').length-1) f:=by
  have:=FrOf.open_ (bk:=bk) h.ok.ok h.den h1 h2 h.lev (by omega);have e:f=⟨f.id,en.r,f.lev,xF en.r⟩:=by
   have hv:=h.hv;rw [h3] at hv;rw [← h3];cases f
   simp only at hv h3 ⊢;rw [h3,hv]
  rw [e];exact this
 obtain ⟨c,hc,hd⟩:=hfr.child h.ok.ok;exact ⟨hfr,c,hc,hd,(h.gd.kid (zy hc)).1,(h.gd.kid (zy hc)).2⟩
def DownRel (X:Px) (bk:Bool) (m b o lim:Nat) (ty:TypeId) (p:List (Tr×Nat)) (x:Tr) (cs:Array Value) (M:List Nat) (w:World) (lv:Nat) (v4:Value) (wr:World):Prop :=
 ∃ (X':Px) (cs':Array Value) (pv':Value) (fs':List Fr) (p':List (Tr×Nat)) (x':Tr) (f:Fr) (ky b4:Nat),v4=.pointer (some ⟨b4,0,none⟩)∧lv=x'.lv∧DownIn X X' bk m o lim p x cs cs' pv' fs' p' x' f ky ∧
  St w M [pA X',blk b (.cells cs' ty),zc ze 265 8 pv' fs',blk b4 (.cells #[.int .i64 f.id,.int .i64 f.r.kind,.int .u8 f.r.letter,.int .i64 f.r.left,.int .i64 f.r.right,.int .i64 f.r.times,.int .i64 f.lev,.int .i64 f.hv] 265)] wr
attribute [local go_sem] StStep jw yM in
theorem down_c {X:Px} {bk:Bool} {m b o lim id ky:Nat} {ty:TypeId} {p:List (Tr×Nat)} {x:Tr} {cs:Array Value} {pv:Value} {fs:List Fr} (hX:zK X) (he:EndAt cs o X.p bk pv id ky) (hd:Den X.S id x) (hg:x.Gd) (hp:PathOf X.S bk p fs) (hlim:lim<=1048576) (hr:fs.length+x.lv<=lim) (hm:m<9223372036854775808) (w:World) (h:(((pA X).sep ((blk b (.cells cs ty)).sep (zc ze 265 8 pv fs))).sep deA).ho w) :
  Calls zb 161 #[.pointer (some ⟨b,o,none⟩),.int .i64 m] w fun e w'=>∃ (X':Px) (cs':Array Value) (pv':Value) (fs':List Fr) (id':Nat),e=.returned (.tuple #[])∧X.Ext X'∧zK X'∧X'.S=X.S∧EndAt cs' o X.p bk pv' id' (yF bk m p x).2.key∧AlikeBut cs cs' o∧PathOf X'.S bk (yF bk m p x).1 fs'∧Den X'.S id' (yF bk m p x).2∧St w ((pA X).sep ((blk b (.cells cs ty)).sep (zc ze 265 8 pv fs))).fp [pA X',blk b (.cells cs' ty),zc ze 265 8 pv' fs'] w':=by
 rw [qz] at h;obtain ⟨k1,k2,hdd⟩:=h;have H:=St.one k1;have HK:Ks w ((pA X).sep ((blk b (.cells cs ty)).sep (zc ze 265 8 pv fs))).fp [deA]:=⟨by simpa using k2,by simpa using fun b hb hm=>hdd b hm hb⟩
 generalize ((pA X).sep ((blk b (.cells cs ty)).sep (zc ze 265 8 pv fs))).fp=M at *;replace H:=H.sep;replace H:=(H.pick (.there .here)).sep;obtain ⟨i,en,hi,hx,ht⟩:=xZ hd;obtain ⟨a,ha⟩:=hg.1;have HOP:Hid (∀ w,((pA X).sep deA).ho w->((pA X).sep (blk b (.cells cs ty))).ho w->Calls zb 158 #[.pointer (some ⟨b,o,none⟩)] w (jL X (.agg #[.int .i64 id,.int .i64 en.r.kind,.int .u8 en.r.letter,.int .i64 en.r.left,.int .i64 en.r.right,.int .i64 en.r.times,.int .i64 a,.int .i64 (xF en.r:Nat)]) (pA X).fp w)):=zh fun w h1 h2=>open_c hX hd ha hi hx (fun w h=>zV h he.c0) (fun w h=>zV h he.c3) w h1 h2
 have HIN0:Hid (∀ X2:Px,X.Ext X2->zK X2->X2.S=X.S->DownIn X X2 bk m o lim p x cs cs pv fs p x ⟨id,en.r,a,xF en.r⟩ ky):=zh fun X2 e1 e2 e3=>⟨e1,e2,e3,he,.refl _ _,by rw [e3];exact hp,by rw [e3];exact hd,hg,ha,⟨i,en,hi,by rw [e3];exact hx,rfl⟩,rfl,rfl,hr⟩
 have HLIM:=zh hlim;clear k1 k2 hdd he hd hg hp hi hx ht ha hX hr;go_enter Tryz.func161,Tryz.ntmps161;go_wp2_with (first|refine sL ?_|(refine sS ?_;clear H;intros;rename_i H)|(go_at_call 158;with_reducible refine zm (HOP.out _ (H.sepK HK pk pk) (H.sepO pk pk)) ?_;rintro e wc ⟨X2,y1,y2,y3,rfl,hb⟩;have HY:=zh (za y1 (za y2 y3));clear y1 y2 y3;replace H:=zn ((H.pick pk).call hb);clear hb));rename_i b4 _ _;go_loopg [4] x.lv (fun lv v4 wr=>DownRel X bk m b o lim ty p x cs M w lv v4 wr);case atStart=>exact ⟨X2,cs,pv,fs,p,x,⟨id,en.r,a,xF en.r⟩,ky,b4,rfl,rfl,HIN0.out X2 HY.out.1 HY.out.2.1 HY.out.2.2,H.picks (.cons pk (.cons pk (.cons pk (.cons pk .nil))))⟩
 case round =>
  clear H HIN0 HOP HY;obtain ⟨X1,cs1,pv1,fs1,p1,x1,f,ky1,b4,rfl,rfl,hin,H⟩:=hrel;have HIN:=zh hin;have HSZ:Hid (o+5<=cs1.size):=zh hin.at_.sz;by_cases hlt:m<f.lev
  ·obtain ⟨hfr,c,hc,hdc,hcg,hclv⟩:=hin.fr hlt;have HFR:=zh hfr;have HCC:=zh hc;have HDC:=zh hdc;have HCG:=zh hcg;have d1:decide ((m:Int)<(f.lev:Int))=true:=(by simp;omega);clear hin hfr hc hdc hcg;go_wp2_with (first|refine sL ?_|(refine sS ?_;clear H;intros;rename_i H));replace H:St w M [zc ze 265 8 pv1 fs1,pA X1,blk b (.cells cs1 ty),blk b4 (.cells #[.int .i64 f.id,.int .i64 f.r.kind,.int .u8 f.r.letter,.int .i64 f.r.left,.int .i64 f.r.right,.int .i64 f.r.times,.int .i64 f.lev,.int .i64 f.hv] 265)] _:=H.picks (.cons pk (.cons pk (.cons pk (.cons pk .nil))));refine zM 8 [⟨[],fun v _=>v=.pointer (some ⟨b,o,none⟩)⟩,⟨[],fun v _=>v=.pointer (some ⟨b,o,none⟩)⟩,⟨[1],fun v _=>v=.pointer (some ⟨b,o,none⟩)⟩,⟨[2],fun v _=>v=.pointer (some ⟨b,o+2,none⟩)⟩,⟨[3],fun v _=>v=pv1⟩,⟨[],fun v _=>v=.agg #[.int .i64 f.id,.int .i64 f.r.kind,.int .u8 f.r.letter,.int .i64 f.r.left,.int .i64 f.r.right,.int .i64 f.r.times,.int .i64 f.lev,.int .i64 f.hv]⟩,⟨[5],fun v _=>∃ bn:Nat,v=.slice (some ⟨bn,0,none⟩) 1 1⟩,⟨[4,6],fun _ _=>True⟩] [6,7] [[0,1,2],[0,1],[0,1],[0,1],[0,1],[0],[0],[1]] [fun _ wx=>St w M [zc ze 265 8 pv1 fs1,pA X1,blk b (.cells cs1 ty),blk b4 (.cells #[.int .i64 f.id,.int .i64 f.r.kind,.int .u8 f.r.letter,.int .i64 f.r.left,.int .i64 f.r.right,.int .i64 f.r.times,.int .i64 f.lev,.int .i64 f.hv] 265)] wx,fun vals wx=>∃ bn:Nat,vals 6=.slice (some ⟨bn,0,none⟩) 1 1∧St w M [zc ze 265 8 pv1 fs1,zc ze 265 8 (.slice (some ⟨bn,0,none⟩) 1 1) [f],pA X1,blk b (.cells cs1 ty),blk b4 (.cells #[.int .i64 f.id,.int .i64 f.r.kind,.int .u8 f.r.letter,.int .i64 f.r.left,.int .i64 f.r.right,.int .i64 f.r.times,.int .i64 f.lev,.int .i64 f.hv] 265)] wx,fun vals wx=>St w M [zc ze 265 8 (vals 7) (fs1++[f]),pA X1,blk b (.cells cs1 ty),blk b4 (.cells #[.int .i64 f.id,.int .i64 f.r.kind,.int .u8 f.r.letter,.int .i64 f.r.left,.int .i64 f.r.right,.int .i64 f.r.times,.int .i64 f.lev,.int .i64 f.hv] 265)] wx]
    [[],[],[(1,14)],[(2,15)],[(3,16)],[],[(5,18)],[(4,17),(6,19)]] [(0,13),(1,14),(2,15),(3,16),(4,17),(5,18),(6,19),(7,20)] (by kernel_rfl) (by kernel_rfl) H.drew ⟨⟨qo,qo,qo,trivial⟩,⟨qo,qo,trivial⟩,⟨qo,qo,trivial⟩,⟨qo,qo,trivial⟩,⟨?_,?_,trivial⟩,⟨ql,trivial⟩,⟨?_,trivial⟩,⟨?_,trivial⟩,trivial⟩ ?_
   ·intro vals wx hd HC;simp only [GF] at hd;have H:=HC;simp only [CA] at H;simp only [PS,hd];refine StStep.celC rfl rfl rfl rfl (zV (H.get (A:=blk b (.cells cs1 ty)) pk) HIN.out.at_.c2) ⟨rfl,HC⟩
   ·intro vals wx hd HC;simp only [GF] at hd;have H:=HC;simp only [CA] at H;obtain ⟨bn,hv,H⟩:=H;simp only [PS,hd];refine StStep.celC rfl rfl rfl rfl (zV (H.get (A:=blk b (.cells cs1 ty)) pk) HIN.out.at_.c2) ⟨rfl,HC⟩
   ·intro vals wx hd HC;simp only [GF] at hd;have H:=HC;simp only [CA] at H;simp only [PS,hd];clear HC;refine StStep.slice1 (enc:=ze) H rfl rfl rfl rfl rfl rfl rfl rfl rfl f rfl xM ?_;intro bn wz H;exact ⟨⟨bn,rfl⟩,bn,rfl,H.picks (.cons pk (.cons pk (.cons pk (.cons pk (.cons pk .nil)))))⟩
   ·intro vals wx hd HC;simp only [GF] at hd;have H:=HC;simp only [CA] at H;obtain ⟨bn,hv,H⟩:=H;simp only [PS,hd,hv];refine StStep.append (enc:=ze) rfl rfl rfl rfl rfl (by decide) (by decide) rfl rfl H (H.get (A:=zc ze 265 8 (.slice (some ⟨bn,0,none⟩) 1 1) [f]) pk) xM ZU (by have:=HIN.out.room;have:=HLIM.out;simp;omega) ?_;intro v' wz H;exact ⟨trivial,H.picks (.cons pk (.cons pk (.cons pk (.cons pk .nil))))⟩
   intro vals wx hd HC;have h6:=hd.2.2.2.2.2.2.1;simp only [CA] at HC;have H:=HC;clear HC;simp only [GF] at hd;simp only [PS,hd];clear hd;obtain ⟨ad2,c2,e2,_⟩:=zE (H.get (A:=zc ze 265 8 (vals 7) (fs1++[f])) pk);simp only [e2] at H ⊢;clear e2;have hlen:(fs1++[f]).length=fs1.length+1:=(by simp);obtain ⟨n2,hn2⟩:∃ n2,(fs1++[f]).length=n2:=⟨_,rfl⟩
   simp only [hn2] at H ⊢;have hat2:=HIN.out.at_.setPath (.slice ad2 n2 c2);obtain ⟨cs2,hcs2⟩:∃ c,cs1.setIfInBounds (o+2) (.slice ad2 n2 c2)=c:=⟨_,rfl⟩
   have HCS2:=zh hcs2;rw [hcs2] at hat2;have HAT2:=zh hat2;have HSZ2:Hid (o+5<=cs2.size):=zh hat2.sz;have HN2:=zh hn2;clear hat2 hcs2 hn2 hlen;go_wp2_with (first|refine sL ?_|(refine sS ?_;clear H;intros;rename_i H)|((with_reducible refine yl ?_);refine AtStore.cell H rfl rfl rfl rfl rfl (qL (qB rfl)) (cs:=cs1) pk (by have:=HSZ.out;omega) HCS2.out ?_;clear H;intro _ H;simp only [Act.put,puA,puB,puC]));have HCH:Hid (∀ w,Calls zb 160 #[.agg #[.int .i64 f.id,.int .i64 f.r.kind,.int .u8 f.r.letter,.int .i64 f.r.left,.int .i64 f.r.right,.int .i64 f.r.times,.int .i64 f.lev,.int .i64 f.hv],.bool bk] w fun e w'=>e=.returned (.int .i64 (jR bk f))∧St w [] [] w'):=zh fun w=>QU f bk w
   obtain ⟨ci,hci⟩:∃ ci,jR bk f=ci:=⟨_,rfl⟩
   rw [hci] at HCH HDC;clear hci;refine zG H 7 [] [] (by kernel_rfl) (by kernel_rfl) ?_;apply Exists.intro;refine ⟨fun w1 hw1 HX=>?_,fun bs wr Hr=>?_⟩
   ·refine sG ?_;repeat (first|go_big_quiet_skip|refine sQ ?_|((with_reducible refine yp ?_);(refine QtLoad.cel rfl rfl rfl rfl (fun y=>zV ((HX y).get (A:=blk b (.cells cs2 ty)) pk) HAT2.out.c1) ?_;simp only [Act.put,puA,puB,puC]))|go_big_quiet_step ((go_at_call 160;with_reducible exact wL (HCH.out _)))|go_big_quiet_step (fail))
    exact wpQuiet_nil rfl
   clear H;have H:=Hr;clear Hr;replace H:=sH H;refine sT ?_;have hat3:=HAT2.out.setId ci;obtain ⟨cs3,hcs3⟩:∃ c,cs2.setIfInBounds (o+3) (.int .i64 ci)=c:=⟨_,rfl⟩
   have HCS3:=zh hcs3;rw [hcs3] at hat3;have HAT3:=zh hat3;obtain ⟨i2,en2,hi2,hx2,ht2⟩:=xZ HDC.out;obtain ⟨a2,ha2⟩:=HCG.out.1;have HX2:=zh (za hi2 (za hx2 ha2));have HOP:Hid (∀ w,((pA X1).sep deA).ho w->((pA X1).sep (blk b (.cells cs3 ty))).ho w->Calls zb 158 #[.pointer (some ⟨b,o,none⟩)] w (jL X1 (.agg #[.int .i64 ci,.int .i64 en2.r.kind,.int .u8 en2.r.letter,.int .i64 en2.r.left,.int .i64 en2.r.right,.int .i64 en2.r.times,.int .i64 a2,.int .i64 (xF en2.r:Nat)]) (pA X1).fp w)):=zh fun w h1 h2=>open_c HIN.out.ok HDC.out HX2.out.2.2 HX2.out.1 HX2.out.2.1 (fun w h=>by rw [HIN.out.ext.p];exact zV h HAT3.out.c0) (fun w h=>zV h HAT3.out.c3) w h1 h2
   have hac3:AlikeBut cs cs3 o:=by
    have h1:=AlikeBut.set cs1 o (o+2) (.slice ad2 n2 c2) (by omega) (by omega);have h2:=AlikeBut.set cs2 o (o+3) (.int .i64 ci) (by omega) (by omega);rw [HCS2.out] at h1;rw [hcs3] at h2;exact (HIN.out.alike.trans h1).trans h2
   have HAC:=zh hac3;clear hat3 hcs3 hi2 hx2 ht2 ha2 hac3;go_wp2_with (first|refine sL ?_|(refine sS ?_;clear H;intros;rename_i H)|((with_reducible refine yl ?_);refine AtStore.cell H rfl rfl rfl rfl rfl (qL (qB rfl)) (cs:=cs2) pk (by have:=HSZ2.out;omega) HCS3.out ?_;clear H;intro _ H;simp only [Act.put,puA,puB,puC])|(go_at_call 158;with_reducible refine zm (HOP.out _ (H.sepK HK pk pk) (H.sepO pk pk)) ?_;rintro e wc ⟨X2,y1,y2,y3,rfl,hb⟩;have HY:=zh (za y1 (za y2 y3));clear y1 y2 y3;replace H:=zn ((H.pick pk).call hb);clear hb));go_roundg c.lv;case measure=>exact hclv
   case rel =>
    have hin:=HIN.out;have hy:=HY.out;exact ⟨X2,cs3,_,fs1++[f],_,c,⟨ci,en2.r,a2,xF en2.r⟩,ky1,_,rfl,rfl,⟨hin.ext.trans hy.1,hy.2.1,hy.2.2.trans hin.same,HAT3.out,HAC.out,(by rw [hy.2.2];exact ⟨fs1,f,rfl,HFR.out,hin.path⟩:PathOf X2.S bk ((x1,if bk then 0 else (zR x1).length-1)::p1) (fs1++[f])),by rw [hy.2.2];exact HDC.out,HCG.out,HX2.out.2.2,⟨i2,en2,HX2.out.1,by rw [hy.2.2];exact HX2.out.2.1,rfl⟩,rfl,(downT_step (by rw [wv hin.lev];exact hlt) HCC.out).symm.trans hin.way,by have:=hin.room;simp;omega⟩,H.picks (.cons pk (.cons pk (.cons pk (.cons pk .nil))))⟩
  ·have d1:decide ((m:Int)<(f.lev:Int))=false:=(by simp;omega);have hend:=downT_end (bk:=bk) (p:=p1) (t:=x1) (m:=m) (by rw [wv hin.lev];omega);have hway:=hin.way;rw [hend] at hway;obtain ⟨kk,hkk⟩:∃ kk,x1.key=kk:=⟨_,rfl⟩
   have HKK:=zh hkk;have HKY:Hid (∀ w,(pA X1).ho w->Calls zb 174 #[.pointer (some ⟨X.p,0,none⟩)] w fun e w'=>e=.returned (.pointer (some ⟨X1.K.t,0,none⟩))∧w'=w):=zh fun w h=>by
    have:=Wj w h;rwa [hin.ext.p] at this
   have HKE:Hid (∀ w,((pA X1).sep deA).ho w->Calls zb 98 #[.pointer (some ⟨X1.K.t,0,none⟩),.int .i64 f.id] w (jL X1 (.tuple #[.int .u64 kk,.nilIface]) (pA X1).fp w)):=zh fun w h=>by rw [← HKK.out];exact Jx hin.ok hin.den w h
   have HWAY:=zh hway;clear hin hend hway hkk;go_wp2_with (first|refine sL ?_|(refine sS ?_;clear H;intros;rename_i H));replace H:St w M [blk b (.cells cs1 ty),pA X1,zc ze 265 8 pv1 fs1,blk b4 (.cells #[.int .i64 f.id,.int .i64 f.r.kind,.int .u8 f.r.letter,.int .i64 f.r.left,.int .i64 f.r.right,.int .i64 f.r.times,.int .i64 f.lev,.int .i64 f.hv] 265)] _:=H.picks (.cons pk (.cons pk (.cons pk (.cons pk .nil))));refine zM 17 [⟨[],fun v _=>v=.pointer (some ⟨b,o,none⟩)⟩,⟨[],fun v _=>v=.pointer (some ⟨b,o,none⟩)⟩,⟨[1],fun v _=>v=.pointer (some ⟨b,o,none⟩)⟩,⟨[2],fun v _=>v=.pointer (some ⟨b,o,none⟩)⟩,⟨[3],fun v _=>v=.pointer (some ⟨X.p,0,none⟩)⟩,⟨[4],fun v _=>v=.pointer (some ⟨X1.K.t,0,none⟩)⟩,⟨[],fun v _=>v=.pointer (some ⟨b,o,none⟩)⟩,⟨[6],fun v _=>v=.pointer (some ⟨b,o,none⟩)⟩,⟨[7],fun v _=>v=.pointer (some ⟨b,o+3,none⟩)⟩,⟨[8],fun v _=>v=.int .i64 f.id⟩,⟨[5,9],fun v _=>v=.tuple #[.int .u64 kk,.nilIface]⟩,⟨[10],fun v _=>v=.tuple #[.int .u64 kk,.nilIface]⟩,⟨[11],fun v _=>v=.int .u64 kk⟩,⟨[11],fun v _=>v=.nilIface⟩,⟨[0],fun v _=>v=.pointer (some ⟨b,o,none⟩)⟩,⟨[14],fun v _=>v=.pointer (some ⟨b,o+4,none⟩)⟩,⟨[12,15],fun _ _=>True⟩] [10,16] [[0,1],[0],[0],[0],[0],[0],[0],[0],[0],[0],[0],[1],[1],[1,2],[1],[1],[1]] [fun _ wx=>St w M [blk b (.cells cs1 ty),pA X1,zc ze 265 8 pv1 fs1,blk b4 (.cells #[.int .i64 f.id,.int .i64 f.r.kind,.int .u8 f.r.letter,.int .i64 f.r.left,.int .i64 f.r.right,.int .i64 f.r.times,.int .i64 f.lev,.int .i64 f.hv] 265)] wx,fun _ wx=>∃ X2:Px,(X1.Ext X2∧zK X2∧X2.S=X1.S)∧St w M [blk b (.cells cs1 ty),pA X2,zc ze 265 8 pv1 fs1,blk b4 (.cells #[.int .i64 f.id,.int .i64 f.r.kind,.int .u8 f.r.letter,.int .i64 f.r.left,.int .i64 f.r.right,.int .i64 f.r.times,.int .i64 f.lev,.int .i64 f.hv] 265)] wx,fun _ wx=>∃ X2:Px,(X1.Ext X2∧zK X2∧X2.S=X1.S)∧St w M [blk b (.cells (cs1.setIfInBounds (o+4) (.int .u64 kk)) ty),pA X2,zc ze 265 8 pv1 fs1,blk b4 (.cells #[.int .i64 f.id,.int .i64 f.r.kind,.int .u8 f.r.letter,.int .i64 f.r.left,.int .i64 f.r.right,.int .i64 f.r.times,.int .i64 f.lev,.int .i64 f.hv] 265)] wx]
    [[],[],[(1,35)],[(2,36)],[(3,37)],[(4,38)],[],[(6,40)],[(7,41)],[(8,42)],[(5,39),(9,43)],[(10,44)],[(11,33)],[(11,33)],[(0,34)],[(14,47)],[(12,45),(15,48)]] [(0,34),(1,35),(2,36),(3,37),(4,38),(5,39),(6,40),(7,41),(8,42),(9,43),(10,44),(11,33),(12,45),(13,46),(14,47),(15,48)] (by kernel_rfl) (by kernel_rfl) H.drew ⟨⟨qo,qo,trivial⟩,⟨qo,trivial⟩,⟨qo,trivial⟩,⟨qo,trivial⟩,⟨?_,trivial⟩,⟨?_,trivial⟩,⟨qo,trivial⟩,⟨qo,trivial⟩,⟨qo,trivial⟩,⟨?_,trivial⟩,⟨?_,trivial⟩,⟨qo,trivial⟩,⟨qo,trivial⟩,⟨qo,qo,trivial⟩,⟨qo,trivial⟩,⟨qo,trivial⟩,⟨?_,trivial⟩,trivial⟩ ?_
   ·intro vals wx hd HC;simp only [GF] at hd;have H:=HC;simp only [CA] at H;simp only [PS,hd];refine StStep.celC rfl rfl rfl rfl (zV (H.get (A:=blk b (.cells cs1 ty)) pk) HIN.out.at_.c0) ⟨rfl,HC⟩
   ·intro vals wx hd HC;simp only [GF] at hd;have h4:=hd;clear hd;have H:=HC;simp only [CA] at H;simp only [PS,h4];clear h4;go_simp;with_reducible refine zm (HKY.out _ (H.get pk)) ?_
    rintro e wc ⟨rfl,rfl⟩;first|exact ⟨_,rfl,rfl,HC⟩|exact ⟨_,rfl,HC⟩
   ·intro vals wx hd HC;simp only [GF] at hd;have H:=HC;simp only [CA] at H;simp only [PS,hd];refine StStep.celC rfl rfl rfl rfl (zV (H.get (A:=blk b (.cells cs1 ty)) pk) HIN.out.at_.c3) ⟨rfl,HC⟩
   ·intro vals wx hd HC;simp only [GF] at hd;obtain ⟨h5,h9⟩:=hd;have H:=HC;simp only [CA] at H;simp only [PS,h5,h9];clear h5 h9 HC;go_simp;with_reducible refine zm (HKE.out _ (H.sepK HK pk pk)) ?_
    rintro e wc ⟨X2,y1,y2,y3,rfl,hb⟩;have H2:=(H.pick pk).call hb;simp only [zo,zv] at H2;exact ⟨_,rfl,rfl,X2,⟨y1,y2,y3⟩,H2.picks (.cons pk (.cons pk (.cons pk (.cons pk .nil))))⟩
   ·intro vals wx hd HC;simp only [GF] at hd;have H:=HC;simp only [CA] at H;obtain ⟨X2,hX2,H⟩:=H;simp only [PS,hd];refine StStep.storeC rfl rfl rfl rfl rfl rfl H (by have:=HSZ.out;omega) ?_;intro wz H;exact ⟨trivial,X2,hX2,H⟩
   intro vals wx hd HC;simp only [CA] at HC;obtain ⟨X2,hX2,H⟩:=HC;simp only [GF] at hd;simp only [PS,hd];clear hd;have HY:=zh hX2;clear hX2;go_wp2_with (first|refine sL ?_|(refine sS ?_;clear H;intros;rename_i H));refine nR ?_;have hin:=HIN.out;have hw:=HWAY.out;rw [← hw];have hk5:=hin.at_.setKey kk;exact ⟨X2,_,pv1,fs1,f.id,rfl,hin.ext.trans HY.out.1,HY.out.2.1,HY.out.2.2.trans hin.same,by rw [HKK.out];exact hk5,hin.alike.trans (AlikeBut.set cs1 o (o+4) (.int .u64 kk) (by omega) (by omega)),by rw [HY.out.2.2];exact hin.path,by rw [HY.out.2.2];exact hin.den,H.picks (.cons pk (.cons pk (.cons pk .nil)))⟩
end
section
open Go.RowKit Go.Maps
attribute [local go_sem] qt
theorem ZP {b o m c:Nat} {ad:Option Addr} {Y:As} (hc:∀ w,Y.ho w->w.cell? ⟨b,o+2,none⟩=some (.slice ad 0 c)) (w:World) (h:Y.ho w) :
  Calls zb 172 #[.pointer (some ⟨b,o,none⟩),.int .i64 m] w fun e w'=>e=.returned (.pointer none)∧w'=w:=by
 have HC:=zh (hc w h);clear hc h;go_enter Tryz.func172,Tryz.ntmps172;go_wp2_with (first|refine sL ?_|(refine sS ?_;clear H;intros;rename_i H)|((with_reducible refine qh ?_);refine AtLoad.cel rfl rfl rfl rfl HC.out ?_;simp only [Act.put,puA,puB,puC]));go_ret;exact ⟨rfl,rfl⟩
theorem vy {b o m c g n:Nat} {fs:List Fr} {f:Fr} {Y:As} (hc:∀ w,Y.ho w->w.cell? ⟨b,o+2,none⟩=some (.slice (some ⟨g,0,none⟩) (n+1) c)) (hn:n<=1048576) (hl:∀ w,Y.ho w->w.cell? ⟨g,n*8+6,none⟩=some (.int .i64 f.lev)) (w:World) (h:Y.ho w) :
  Calls zb 172 #[.pointer (some ⟨b,o,none⟩),.int .i64 m] w fun e w'=>e=.returned (if f.lev=m then .pointer (some ⟨g,n*8,none⟩) else .pointer none)∧w'=w:=by
 have HC:=zh (hc w h);have HL:=zh (hl w h);clear hc h hl;by_cases hm:f.lev=m
 ·rw [if_pos hm];have d1:((f.lev:Int)==(m:Int))=true:=(by simp;omega);clear hm;go_enter Tryz.func172,Tryz.ntmps172;go_wp2_with (first|refine sL ?_|(refine sS ?_;clear H;intros;rename_i H)|((with_reducible refine qh ?_);first|(refine AtLoad.cel rfl rfl rfl rfl HC.out ?_;simp only [Act.put,puA,puB,puC])|(refine AtLoad.cel rfl rfl rfl rfl HL.out ?_;simp only [Act.put,puA,puB,puC])));go_ret;exact ⟨rfl,rfl⟩
 ·rw [if_neg hm];have d1:((f.lev:Int)==(m:Int))=false:=(by simp;omega);clear hm;go_enter Tryz.func172,Tryz.ntmps172;go_wp2_with (first|refine sL ?_|(refine sS ?_;clear H;intros;rename_i H)|((with_reducible refine qh ?_);first|(refine AtLoad.cel rfl rfl rfl rfl HC.out ?_;simp only [Act.put,puA,puB,puC])|(refine AtLoad.cel rfl rfl rfl rfl HL.out ?_;simp only [Act.put,puA,puB,puC])));go_ret;exact ⟨rfl,rfl⟩
end
section
abbrev qK:=List (Tr×Nat)×Option Tr
def yZ (lv:Nat):List (Tr×Nat)->Option (Tr×Nat)
 |[]=>none
 |q::_=>if q.1.lv=lv then some q else none
def hvT (bk:Bool) (q:Tr×Nat):Nat:=if bk then (zR q.1).length-q.2 else q.2+1
def j0 (bk:Bool) (lv:Nat) (p:List (Tr×Nat)):Nat×Bool:=match yZ lv p with|none=>(1,false)|some q=>(hvT bk q,decide (hvT bk q<(zR q.1).length))
def kz (M:List It) (e:qK):Option Tr:=match M with|i::_=>some i.x|[]=>e.2
def kj (M:List It) (d:qK):Option Tr:=match M.getLast? with|some i=>some i.x|none=>d.2
theorem xX {m:Nat} {p:List (Tr×Nat)} (h:yZ (m+1) p=none):W2 m p:=by
 intro t j p' e;subst e;simp only [yZ] at h;split at h
 ·cases h
 ·assumption
theorem xk {lv:Nat} {p:List (Tr×Nat)} {q:Tr×Nat} (h:yZ lv p=some q):∃ p',p=q::p'∧q.1.lv=lv:=by
 cases p with
 |nil=>cases h
 |cons r p =>
  simp only [yZ] at h;split at h
  ·injection h with h;subst h;exact ⟨p,rfl,by assumption⟩
  ·cases h
theorem xE {m:Nat} (he:m%2=0) (l:List Tr):yc (m+1) l=runs l:=by unfold yc;rw [if_pos (by omega)]
theorem yH {m:Nat} (ho:m%2=1) (l:List Tr):yc (m+1) l=zH (fits (m+1)) l:=by unfold yc;rw [if_neg (by omega)]
structure LOk (a:Tr) (m:Nat) (L R:List Tr) (M:List It) (d1:qK) (M1:List It) (P:List Tr):Prop where
 lay:∃ Q,a.lay (m+1)=P++Q
 end_:EndL a m d1 (P.flatMap (Tr.lay m))
 up:EndL a (m+1) (upT false (m+1) d1) P
 mv:∃ Y,L=P.flatMap (Tr.lay m)++Y∧zT M1=Y++zT M
 cut:yc (m+1) (P.flatMap (Tr.lay m)++(zT M1++R))=P++yc (m+1) (zT M1++R)
structure ROk (b:Tr) (m:Nat) (R:List Tr) (M:List It) (e1:qK) (M1:List It) (Q:List Tr):Prop where
 lay:∃ P,b.lay (m+1)=P++Q
 end_:EndR b m e1 (Q.flatMap (Tr.lay m))
 up:EndR b (m+1) (upT true (m+1) e1) Q
 mv:∃ Y,R=Y++Q.flatMap (Tr.lay m)∧zT M1=zT M++Y
 cut:yc (m+1) (zT M1++Q.flatMap (Tr.lay m))=yc (m+1) (zT M1)++Q
theorem LOk.none (a:Tr) (m:Nat) (R:List Tr) (M:List It):LOk a m [] R M ([],Option.none) M [] :=
 ⟨⟨_,(zv _).symm⟩,⟨rfl,rfl⟩,⟨rfl,rfl⟩,⟨[],by simp,by simp⟩,by simp⟩
theorem ROk.none (b:Tr) (m:Nat) (M:List It):ROk b m [] M ([],Option.none) M [] :=
 ⟨⟨_,(qO _).symm⟩,⟨rfl,rfl⟩,⟨rfl,rfl⟩,⟨[],by simp,by simp⟩,by simp⟩
def yP (lv:Nat) (d e:qK) (M:List It):qK×List It:=match d.2 with
 |none=>(d,M)
 |some x=>if (j0 false lv d.1).2=true∨kz M e=some x then (qZ false (lv-1) (j0 false lv d.1).1 d.1,⟨x,none,(j0 false lv d.1).1⟩::M) else (d,M)
def jn (lv:Nat) (d e:qK) (M:List It):qK×List It:=match e.2 with
 |none=>(e,M)
 |some x=>if (j0 true lv e.1).2=true∨kj M d=some x then (qZ true (lv-1) (j0 true lv e.1).1 e.1,M++[⟨x,none,(j0 true lv e.1).1⟩]) else (e,M)
section
variable {a b:Tr} {m:Nat} {d e:qK} {M:List It} {L R:List Tr}
theorem Vj (he:m%2=0) (hc:Canon a) (hd:EndL a m d L) (hh:∀ y,(zT M++R).head?=some y->kz M e=some y):∃ P,LOk a m L R M (yP (m+1) d e M).1 (yP (m+1) d e M).2 P:=by
 obtain ⟨p,o⟩:=d;cases o with
 |none =>
  obtain ⟨rfl,rfl⟩:=hd;exact ⟨[],LOk.none a m R M⟩
 |some x =>
  have hd:EdL a m p x L:=hd;have hD:EndL a m (p,some x) L:=hd;unfold yP;simp only [xC];by_cases hmv:(j0 false (m+1) p).2=true∨kz M e=some x
  ·rw [if_pos hmv];cases ht:yZ (m+1) p with
   |none =>
    have hr:j0 false (m+1) p=(1,false):=(by simp [j0,ht]);rw [hr];obtain ⟨P,Q,h1,h2,h3,h4⟩:=rlMoveN he hc hd (xX ht) (zT M++R);have hdr:=dropL (m:=m) hc.gd p x hd.zip hd.above;rw [h2] at hdr h3 h4;exact ⟨P,⟨Q,h1⟩,hdr,upL hc h1 hdr,⟨[x],h3,by simp [qn,It.exp]⟩,by rw [xE he,xE he];simpa [qn,It.exp] using h4⟩
   |some q =>
    obtain ⟨p',rfl,hq⟩:=xk ht;obtain ⟨t,j⟩:=q;have hr:(j0 false (m+1) ((t,j)::p')).1=j+1:=(by simp [j0,ht,hvT]);rw [hr];obtain ⟨P,Q,k,_,h1,h2,h3,h4⟩:=rlMoveT he hc hd hq (zT M++R);have hdr:=dropL (m:=m) hc.gd p' t hd.zip.tail.1 fun f hf=>hd.above f (by simp [hf])
    have hdt:qZ false m (j+1) ((t,j)::p')=qZ false m 1 p':=by
     simp only [qZ,xA,if_false];rw [if_neg (by omega)]
    rw [hdt];rw [h2] at hdr h3 h4;exact ⟨P,⟨Q,h1⟩,hdr,upL hc h1 hdr,⟨_,h3,by simp [qn,It.exp]⟩,by rw [xE he,xE he];simpa [qn,It.exp] using h4⟩
  ·rw [if_neg hmv];have hn1:¬ (j0 false (m+1) p).2=true:=fun h=>hmv (.inl h)
   have hn2:¬ kz M e=some x:=fun h=>hmv (.inr h)
   have hw:∃ P Q,a.lay (m+1)=P++Q∧L=P.flatMap (Tr.lay m):=by
    cases ht:yZ (m+1) p with
    |none=>exact rlWholeN hc hd (xX ht)
    |some q =>
     obtain ⟨p',rfl,hq⟩:=xk ht;obtain ⟨t,j⟩:=q;refine rlWholeT hc hd hq ?_;have hlt:=yE hd.zip.tail.2;simp [j0,ht,hvT] at hn1;omega
   obtain ⟨P,Q,h1,h2⟩:=hw;refine ⟨P,⟨Q,h1⟩,by rw [← h2];exact hD,upL hc h1 (by rw [← h2];exact hD),⟨[],by simpa using h2,by simp⟩,?_⟩;rw [xE he,xE he];refine rlKeep he hc h1 _ fun z y hz hy=>?_
   rw [← h2,hd.eq] at hz;simp at hz;subst hz;intro hxy;subst hxy;exact hn2 (hh _ hy)
theorem Vl (he:m%2=0) (hc:Canon b) (hd:EndR b m e R) (hl:∀ z,(zT M).getLast?=some z->kj M d=some z):∃ Q,ROk b m R M (jn (m+1) d e M).1 (jn (m+1) d e M).2 Q:=by
 obtain ⟨p,o⟩:=e;cases o with
 |none =>
  obtain ⟨rfl,rfl⟩:=hd;exact ⟨[],ROk.none b m M⟩
 |some x =>
  have hd:EdR b m p x R:=hd;have hD:EndR b m (p,some x) R:=hd;unfold jn;simp only [xC];by_cases hmv:(j0 true (m+1) p).2=true∨kj M d=some x
  ·rw [if_pos hmv];cases ht:yZ (m+1) p with
   |none =>
    have hr:j0 true (m+1) p=(1,false):=(by simp [j0,ht]);rw [hr];obtain ⟨P,Q,h1,h2,h4⟩:=rrMoveN he hc hd (xX ht);have hdr:=W8 (m:=m) hc.gd p x hd.zip hd.above;have h3:=hd.eq;rw [h2] at hdr h3 h4;have e1:zT (M++[⟨x,none,1⟩])=zT M++[x]:=(by simp [xw,qn,qH,It.exp]);refine ⟨Q,⟨P,h1⟩,hdr,upR hc h1 hdr,⟨[x],by simpa using h3,e1⟩,?_⟩;rw [xE he,xE he];refine rr_cut he hc h1 _ fun z y hz hy=>?_
    rw [e1] at hz;simp at hz;subst hz;exact h4 y hy
   |some q =>
    obtain ⟨p',rfl,hq⟩:=xk ht;obtain ⟨t,j⟩:=q;obtain ⟨P,Q,k,rfl,hjk,h1,h2,h3,h4⟩:=rrMoveT he hc hd hq;have hr:(j0 true (m+1) ((Tr.pow x k,j)::p')).1=k-j:=(by simp [j0,ht,hvT,zR]);rw [hr];have hdr:=W8 (m:=m) hc.gd p' _ hd.zip.tail.1 fun f hf=>hd.above f (by simp [hf])
    have hdt:qZ true m (k-j) ((Tr.pow x k,j)::p')=qZ true m 1 p':=by
     simp only [qZ,if_true,zR,qr];rw [if_neg (by omega)]
    rw [hdt];rw [h2] at hdr h3 h4;have e1:zT (M++[⟨x,none,k-j⟩])=zT M++zd (k-j) x:=(by simp [xw,qn,qH,It.exp]);refine ⟨Q,⟨P,h1⟩,hdr,upR hc h1 hdr,⟨_,h3,e1⟩,?_⟩;rw [xE he,xE he];refine rr_cut he hc h1 _ fun z y hz hy=>?_
    rw [e1] at hz;obtain ⟨n,hn⟩:=zA (show k-j≠0 by omega);rw [hn,xG,← zQ] at hz;simp at hz;subst hz;exact h4 y hy
  ·rw [if_neg hmv];have hn1:¬ (j0 true (m+1) p).2=true:=fun h=>hmv (.inl h)
   have hn2:¬ kj M d=some x:=fun h=>hmv (.inr h)
   have hw:∃ P Q,b.lay (m+1)=P++Q∧R=Q.flatMap (Tr.lay m):=by
    cases ht:yZ (m+1) p with
    |none=>exact Kp hc hd (xX ht)
    |some q =>
     obtain ⟨p',rfl,hq⟩:=xk ht;obtain ⟨t,j⟩:=q;have hlt:=yE hd.zip.tail.2;have hj:j=0:=by
      simp [j0,ht,hvT] at hn1;omega
     subst hj;exact Kq hc hd hq
   obtain ⟨P,Q,h1,h2⟩:=hw;refine ⟨Q,⟨P,h1⟩,by rw [← h2];exact hD,upR hc h1 (by rw [← h2];exact hD),⟨[],by simpa using h2,by simp⟩,?_⟩;rw [xE he,xE he];refine rr_cut he hc h1 _ fun z y hz hy=>?_
   rw [← h2,hd.eq] at hy;simp at hy;subst hy;intro hxy;subst hxy;exact hn2 (hl _ hz)
end
def wD (bk:Bool) (lv:Nat) (p:List (Tr×Nat)) (x:Tr) (h:Option Tr):Bool:=match yZ lv p with
 |some q=>decide (hvT bk q=2)
 |none=>match h with|some y=>!(if bk then fits lv y x else fits lv x y)|none=>true
def qA (lv:Nat) (d e:qK) (M:List It):qK×List It:=match d.2 with
 |none=>(d,M)
 |some x=>if wD false lv d.1 x (kz M e)=true then (d,M) else (qZ false (lv-1) 1 d.1,⟨x,none,1⟩::M)
def wa (lv:Nat) (d e:qK) (M:List It):qK×List It:=match e.2 with
 |none=>(e,M)
 |some x=>if wD true lv e.1 x (kj M d)=true then (e,M) else (qZ true (lv-1) 1 e.1,M++[⟨x,none,1⟩])
section
variable {a b:Tr} {m:Nat} {d e:qK} {M:List It} {L R:List Tr}
theorem Yz (ho:m%2=1) (hc:Canon a) (hd:EndL a m d L) (hh:∀ y,(zT M++R).head?=some y->kz M e=some y):∃ P,LOk a m L R M (qA (m+1) d e M).1 (qA (m+1) d e M).2 P:=by
 obtain ⟨p,o⟩:=d;cases o with
 |none =>
  obtain ⟨rfl,rfl⟩:=hd;exact ⟨[],LOk.none a m R M⟩
 |some x =>
  have hd:EdL a m p x L:=hd;have hD:EndL a m (p,some x) L:=hd;unfold qA;simp only [xC];have keep:(∃ P Q,a.lay (m+1)=P++Q∧L=P.flatMap (Tr.lay m)∧zH (fits (m+1)) (L++(zT M++R))=P++zH (fits (m+1)) (zT M++R))->∃ P,LOk a m L R M (p,some x) M P:=by
   rintro ⟨P,Q,h1,h2,h3⟩;refine ⟨P,⟨Q,h1⟩,by rw [← h2];exact hD,upL hc h1 (by rw [← h2];exact hD),⟨[],by simpa using h2,by simp⟩,?_⟩;rw [yH ho,yH ho,← h2];exact h3
  have move:(∃ P Q,a.lay (m+1)=P++Q∧qi m p=P.flatMap (Tr.lay m)∧L=qi m p++[x]∧zH (fits (m+1)) (qi m p++x::(zT M++R))=P++zH (fits (m+1)) (x::(zT M++R)))->∃ P,LOk a m L R M (qZ false m 1 p) (⟨x,none,1⟩::M) P:=by
   rintro ⟨P,Q,h1,h2,h3,h4⟩;have hdr:=dropL (m:=m) hc.gd p x hd.zip hd.above;rw [h2] at hdr h3 h4;exact ⟨P,⟨Q,h1⟩,hdr,upL hc h1 hdr,⟨[x],h3,by simp [qn,It.exp]⟩,by rw [yH ho,yH ho];simpa [qn,It.exp] using h4⟩
  cases ht:yZ (m+1) p with
  |none =>
   by_cases hk:wD false (m+1) p x (kz M e)=true
   ·rw [if_pos hk];refine keep (glKeepN ho hc hd (xX ht) _ fun y hy=>?_);unfold wD at hk;simp only [ht,hh y hy] at hk;simpa using hk
   ·rw [if_neg hk];exact move (glMoveN ho hc hd (xX ht) _)
  |some q =>
   obtain ⟨p',rfl,hq⟩:=xk ht;obtain ⟨t,j⟩:=q;have hlt:=yE hd.zip.tail.2;obtain ⟨u,v,rfl,_⟩:=jl (hd.zip.tail.1.gd hc.gd).1 hq ho;simp only [zR,zw,zC] at hlt;by_cases hk:wD false (m+1) ((Tr.pair u v,j)::p') x (kz M e)=true
   ·rw [if_pos hk];simp [wD,ht,hvT] at hk;exact keep (glKeepT ho hc hd hq (by omega) _)
   ·rw [if_neg hk];simp [wD,ht,hvT] at hk;obtain rfl:j=0:=by omega
    exact move (glMoveT ho hc hd hq _)
theorem Jt (ho:m%2=1) (hnt:yQ (m+1)=false) (hc:Canon b) (hd:EndR b m e R) (hl:∀ z,(zT M).getLast?=some z->kj M d=some z):∃ Q,ROk b m R M (wa (m+1) d e M).1 (wa (m+1) d e M).2 Q:=by
 obtain ⟨p,o⟩:=e;cases o with
 |none =>
  obtain ⟨rfl,rfl⟩:=hd;exact ⟨[],ROk.none b m M⟩
 |some x =>
  have hd:EdR b m p x R:=hd;have hD:EndR b m (p,some x) R:=hd;unfold wa;simp only [xC];have keep:(∃ P Q,b.lay (m+1)=P++Q∧R=Q.flatMap (Tr.lay m))->(∀ z,(zT M).getLast?=some z->fits (m+1) z x=false)->∃ Q,ROk b m R M (p,some x) M Q:=by
   rintro ⟨P,Q,h1,h2⟩ hf;refine ⟨Q,⟨P,h1⟩,by rw [← h2];exact hD,upR hc h1 (by rw [← h2];exact hD),⟨[],by simpa using h2,by simp⟩,?_⟩;rw [yH ho,yH ho];refine Ku ho hc h1 _ fun z y hz hy=>?_
   rw [← h2,hd.eq] at hy;simp at hy;subst hy;exact hf z hz
  have move:(∃ P Q,b.lay (m+1)=P++Q∧tl m p=Q.flatMap (Tr.lay m)∧∀ y,(tl m p).head?=some y->fits (m+1) x y=false)->∃ Q,ROk b m R M (qZ true m 1 p) (M++[⟨x,none,1⟩]) Q:=by
   rintro ⟨P,Q,h1,h2,h4⟩;have hdr:=W8 (m:=m) hc.gd p x hd.zip hd.above;have h3:=hd.eq;rw [h2] at hdr h3 h4;have e1:zT (M++[⟨x,none,1⟩])=zT M++[x]:=(by simp [xw,qn,qH,It.exp]);refine ⟨Q,⟨P,h1⟩,hdr,upR hc h1 hdr,⟨[x],by simpa using h3,e1⟩,?_⟩;rw [yH ho,yH ho];refine Ku ho hc h1 _ fun z y hz hy=>?_
   rw [e1] at hz;simp at hz;subst hz;exact h4 y hy
  cases ht:yZ (m+1) p with
  |none =>
   by_cases hk:wD true (m+1) p x (kj M d)=true
   ·rw [if_pos hk];refine keep (Kp hc hd (xX ht)) fun z hz=>?_
    unfold wD at hk;simp only [ht,hl z hz] at hk;simpa using hk
   ·rw [if_neg hk];exact move (grMoveN ho hc hd (xX ht))
  |some q =>
   obtain ⟨p',rfl,hq⟩:=xk ht;obtain ⟨t,j⟩:=q;have hx:=hd.zip.tail.2;have hlt:=yE hx;obtain ⟨u,v,rfl,hf⟩:=jl (hd.zip.tail.1.gd hc.gd).1 hq ho;simp only [zR,zw,zC] at hlt;by_cases hk:wD true (m+1) ((Tr.pair u v,j)::p') x (kj M d)=true
   ·rw [if_pos hk];simp [wD,ht,hvT,zR] at hk;obtain rfl:j=0:=by omega
    refine keep (Kq hc hd hq) fun z hz=>?_
    obtain rfl:u=x:=by simpa [zR] using hx
    exact (Xe hnt hf z).2
   ·rw [if_neg hk];simp [wD,ht,hvT,zR] at hk;obtain ⟨P,Q,h1,h2,u',e1,hf'⟩:=grMoveT ho hc hd hq (by omega);exact move ⟨P,Q,h1,h2,fun y _=>(Xe hnt hf' y).1⟩
end
end
section
def sndT:Tr->Option Tr
 |.pair _ v=>some v
 |_=>none
def yA (lv:Nat) (p:List (Tr×Nat)) (x:Tr) (M:List It):qK×List It:=match yZ lv p with
 |some q=>if hvT true q=2 then (match yZ (lv+1) p.tail with
   |some q2=>(qZ true (lv-1) (hvT true q2) p.tail,M++[⟨x,sndT q.1,hvT true q2⟩])
   |none=>(qZ true (lv-1) 1 p.tail,M++[⟨x,sndT q.1,1⟩]))
  else (qZ true (lv-1) 1 p,M++[⟨x,none,1⟩])
 |none=>(qZ true (lv-1) 1 p,M++[⟨x,none,1⟩])
inductive W1 (lv ky:Nat) (e0:qK) (M0:List It):qK->List It->Prop
 |zero:W1 lv ky e0 M0 e0 M0
 |step {p:List (Tr×Nat)} {x:Tr} {M:List It}:W1 lv ky e0 M0 (p,some x) M->x.key=ky->W1 lv ky e0 M0 (yA lv p x M).1 (yA lv p x M).2
def xU (lv:Nat) (p:List (Tr×Nat)) (x:Tr) (M:List It):Bool:=(match yZ lv p with|some q=>decide (hvT true q=2)|none=>true)&&(match M.getLast? with|some i=>decide (i.x.key≠x.key)|none=>true)
inductive Xu (lv:Nat) (e:qK) (M:List It):qK->List It->Prop
 |none:e.2=none->Xu lv e M e M
 |keep {p:List (Tr×Nat)} {x:Tr}:e=(p,some x)->xU lv p x M=true->Xu lv e M e M
 |go {p:List (Tr×Nat)} {x:Tr} {e':qK} {M':List It}:e=(p,some x)->xU lv p x M=false->W1 lv x.key e M e' M'->(∀ y,e'.2=some y->y.key≠x.key)->Xu lv e M e' M'
def TieI (i:It):Prop:=1<=i.n∧((i.nx=none∧i.n=1)∨∃ y,i.nx=some y∧i.x.key=y.key)
def Tie (l:List It):Prop:=∀ i∈l,TieI i
theorem One.tie {l:List It} (h:One l):Tie l:=fun i hi=>⟨by have:=(h i hi).2;omega,.inl (h i hi)⟩
theorem Tie.snoc {l:List It} {i:It} (h:Tie l) (hi:TieI i):Tie (l++[i]):=fun j hj=>by
 rcases zl.1 hj with hj|hj
 ·exact h j hj
 ·simp at hj;subst hj;exact hi
theorem XF (x:Tr):It.exp ⟨x,none,1⟩=[x]:=rfl
theorem jm (M:List It) (i:It):zT (M++[i])=zT M++i.exp:=by simp [xw,qn,qH]
theorem turn_last (x v:Tr) (k:Nat) (h:1<=k):∃ l,(zd k [x,v]).flatten=l++[v]:=by
 obtain ⟨n,rfl⟩:=zA (show k≠0 by omega);rw [xG];exact ⟨(zd n [x,v]).flatten++[x],by simp⟩
section
variable {b:Tr} {m:Nat} {e0 e e':qK} {M0 M M':List It} {R R0:List Tr} {ky:Nat}
theorem WU (ho:m%2=1) (htie:yQ (m+1)=true) (hc:Canon b) (hd:EndR b m e0 R0) (hM0:Tie M0) (h:W1 (m+1) ky e0 M0 e M) :
  ∃ R Y,EndR b m e R∧R0=Y++R∧zT M=zT M0++Y∧Tie M∧((M=M0∧e=e0)∨((∃ P Q,b.lay (m+1)=P++Q∧R=Q.flatMap (Tr.lay m))∧∃ z,(zT M).getLast?=some z∧z.key=ky)):=by
 induction h with
 |zero=>exact ⟨R0,[],hd,rfl,by simp,hM0,.inl ⟨rfl,rfl⟩⟩
 |@step p x M hs hk ih =>
  obtain ⟨R,Y,h1,h2,h3,h4,_⟩:=ih;have h1:EdR b m p x R:=h1;have one:(∃ P Q,b.lay (m+1)=P++Q∧tl m p=Q.flatMap (Tr.lay m))->∃ R Y,EndR b m (qZ true m 1 p) R∧R0=Y++R∧zT (M++[⟨x,none,1⟩])=zT M0++Y∧Tie (M++[⟨x,none,1⟩])∧((M++[⟨x,none,1⟩]=M0∧qZ true m 1 p=e0)∨((∃ P Q,b.lay (m+1)=P++Q∧R=Q.flatMap (Tr.lay m))∧∃ z,(zT (M++[⟨x,none,1⟩])).getLast?=some z∧z.key=ky)):=by
   rintro ⟨P,Q,q1,q2⟩;refine ⟨tl m p,Y++[x],W8 hc.gd p x h1.zip h1.above,?_,?_,h4.snoc ⟨zr _,.inl ⟨rfl,rfl⟩⟩,.inr ⟨⟨P,Q,q1,q2⟩,x,?_,hk⟩⟩
   ·rw [h2,h1.eq];simp
   ·rw [jm,h3,XF];simp
   ·rw [jm,XF];simp
  unfold yA;simp only [xC];cases ht:yZ (m+1) p with
  |none =>
   obtain ⟨P,Q,q1,q2,_⟩:=grMoveN ho hc h1 (xX ht);exact one ⟨P,Q,q1,q2⟩
  |some q =>
   obtain ⟨p',rfl,hq⟩:=xk ht;obtain ⟨t,j⟩:=q;have hx:=h1.zip.tail.2;have hlt:=yE hx;have hg:=(h1.zip.tail.1.gd hc.gd).1;simp only [List.tail_cons];by_cases hv:hvT true (t,j)=2
   ·rw [if_pos hv];obtain rfl:j=0:=by
     obtain ⟨u,v,rfl,_⟩:=jl hg hq ho;simp [hvT,zR] at hv hlt;omega
    obtain ⟨P,Q,v,q1,rfl,q3,q4,q5,q6⟩:=grPair ho hc h1 hq;have hkv:x.key=v.key:=(by rw [kT htie] at q3;simpa using q3);simp only [sndT];cases ht2:yZ (m+1+1) p' with
    |none =>
     refine ⟨tl m p',Y++[x,v],W8 hc.gd p' _ h1.zip.tail.1 (fun f hf=>h1.above f (by simp [hf])),?_,?_,h4.snoc ⟨zr _,.inr ⟨v,rfl,hkv⟩⟩,.inr ⟨⟨P++[Tr.pair x v],Q,by rw [q1];simp,q4⟩,v,?_,hkv.symm.trans hk⟩⟩
     ·rw [h2,q6];simp
     ·rw [jm,h3];simp [It.exp]
     ·rw [jm];simp [It.exp]
    |some q2 =>
     obtain ⟨p'',rfl,hq2⟩:=xk ht2;obtain ⟨t2,j2⟩:=q2;have hz2:=h1.zip.tail.1;have hx2:=hz2.tail.2;have hlt2:=yE hx2;have hg2:=(hz2.tail.1.gd hc.gd).1;obtain ⟨s,k,rfl,hk2⟩:=KD hg2 hq2 (by omega);obtain rfl:Tr.pair x v=s:=xy (zy hx2);simp only [zR,qr] at hlt2;have hkj:hvT true (Tr.pow (Tr.pair x v) k,j2)=k-j2:=(by simp [hvT,zR]);simp only [hkj];have hdt:qZ true m (k-j2) ((Tr.pow (Tr.pair x v) k,j2)::p'')=qZ true m 1 p'':=by
      simp only [qZ,if_true,zR,qr];rw [if_neg (by omega)]
     rw [hdt];obtain ⟨n,hn⟩:∃ n,k-j2=n+1:=⟨k-j2-1,by omega⟩
     have hlay:(Tr.pair x v).lay m=[x,v]:=jD hg hq;have hR:R=(zd (k-j2) [x,v]).flatten++tl m p'':=by
      rw [q6];simp only [tl,zR,List.drop_replicate,jc,hlay];rw [show k-(j2+1)=n by omega,hn];simp [zS]
     have hQ:Q=zd n (Tr.pair x v)++tl (m+1) p'':=by
      rw [q5];simp only [tl,zR,List.drop_replicate,jc];rw [show k-(j2+1)=n by omega,qG (m:=m+1) (t:=Tr.pair x v) (Nat.le_of_eq hq)];congr 1
      simp
     obtain ⟨l,hl⟩:=turn_last x v (k-j2) (by omega);refine ⟨tl m p'',Y++(zd (k-j2) [x,v]).flatten,W8 hc.gd p'' _ hz2.tail.1 (fun f hf=>h1.above f (by simp [hf])),?_,?_,h4.snoc ⟨by simp only;omega,.inr ⟨v,rfl,hkv⟩⟩,.inr ⟨⟨P++Tr.pair x v::zd n (Tr.pair x v),tl (m+1) p'',by rw [q1,hQ];simp,(Yd p'').symm⟩,v,?_,hkv.symm.trans hk⟩⟩
     ·rw [h2,hR];simp
     ·rw [jm,h3];simp [It.exp]
     ·rw [jm];simp only [It.exp];rw [hl];simp
   ·rw [if_neg hv];have hj:j≠0:=by
     rintro rfl;obtain ⟨u,v,rfl,_⟩:=jl hg hq ho;simp [hvT,zR] at hv
    obtain ⟨P,Q,q1,q2,_⟩:=grMoveT ho hc h1 hq hj;exact one ⟨P,Q,q1,q2⟩
theorem gStr_ok (ho:m%2=1) (htie:yQ (m+1)=true) (hc:Canon b) (hd:EndR b m e R) (hM:One M) (h:Xu (m+1) e M e' M'):(∃ Q,ROk b m R M e' M' Q)∧Tie M':=by
 cases h with
 |none he =>
  obtain ⟨p,o⟩:=e;simp only at he;subst he;obtain ⟨rfl,rfl⟩:=hd;exact ⟨⟨[],ROk.none b m M⟩,hM.tie⟩
 |@keep p x he hk =>
  subst he;refine ⟨?_,hM.tie⟩;have hd:EdR b m p x R:=hd;have hD:EndR b m (p,some x) R:=hd;unfold xU at hk;simp only [zu] at hk;have hw:∃ P Q,b.lay (m+1)=P++Q∧R=Q.flatMap (Tr.lay m):=by
   cases ht:yZ (m+1) p with
   |none=>exact Kp hc hd (xX ht)
   |some q =>
    obtain ⟨p',rfl,hq⟩:=xk ht;obtain ⟨t,j⟩:=q;have hlt:=yE hd.zip.tail.2;obtain ⟨u,v,rfl,_⟩:=jl (hd.zip.tail.1.gd hc.gd).1 hq ho;have hk1:=hk.1;simp [ht,hvT,zR] at hk1 hlt;obtain rfl:j=0:=by omega
    exact Kq hc hd hq
  obtain ⟨P,Q,h1,h2⟩:=hw;refine ⟨Q,⟨P,h1⟩,by rw [← h2];exact hD,upR hc h1 (by rw [← h2];exact hD),⟨[],by simpa using h2,by simp⟩,?_⟩;rw [yH ho,yH ho];refine Ku ho hc h1 _ fun z y hz hy=>?_
  rw [← h2,hd.eq] at hy;simp at hy;subst hy;rw [kT htie];rw [hM.exp,List.getLast?_map] at hz;cases hl:M.getLast? with
  |none=>rw [hl] at hz;cases hz
  |some i =>
   rw [hl] at hz;simp at hz;have hk2:=hk.2;rw [hl] at hk2;simp at hk2;rw [← hz];simpa using hk2
 |@go p x e' M' he hk hs hne =>
  subst he;obtain ⟨R',Y,h1,h2,h3,h4,h5⟩:=WU ho htie hc hd hM.tie hs;refine ⟨?_,h4⟩;rcases h5 with ⟨rfl,rfl⟩|⟨⟨P,Q,q1,q2⟩,z0,hz0,hzk⟩
  ·exact absurd rfl (hne x rfl)
  ·rw [q2] at h1 h2;refine ⟨Q,⟨P,q1⟩,h1,upR hc q1 h1,⟨Y,h2,h3⟩,?_⟩;rw [yH ho,yH ho];refine Ku ho hc q1 _ fun z y hz hy=>?_
   rw [hz0] at hz;injection hz with hz
   subst hz;rw [kT htie,hzk];obtain ⟨p',o⟩:=e';cases o with
   |none=>obtain ⟨_,h⟩:=h1;rw [h] at hy;cases hy
   |some y' =>
    have h1:EdR b m p' y' _:=h1;rw [h1.eq] at hy;simp at hy;subst hy;have:=hne y' rfl;simp;exact fun e=>this e.symm
end
theorem Y5:∀ {M acc:List It},Sg acc->ApI acc->Sg M->Sg (M.foldl qx acc)∧ApI (M.foldl qx acc)∧zT (M.foldl qx acc)=zT acc++zT M
 |[],acc,h1,h2,_=>⟨h1,h2,by simp [qH]⟩
 |i::M,acc,h1,h2,h3=>by
  obtain ⟨p1,p2⟩:=wV h1 (h3 i (by simp));obtain ⟨q1,q2,q3⟩:=Y5 p1 (push_ap (i:=i) h2) (fun j hj=>h3 j (by simp [hj]):Sg M);exact ⟨q1,q2,by rw [zB,q3,p2,qn];simp⟩
def Qh (M:List It):List It:=(M.foldl qx []).map Y4
theorem VB {M:List It} (h:Sg M):One (Qh M)∧zT (Qh M)=runs (zT M):=by
 obtain ⟨h1,h2,h3⟩:=Y5 (M:=M) (acc:=[]) (fun i hi=>by simp at hi) trivial h;exact ⟨VJ h1,by unfold Qh;rw [runs_exp h1 h2,h3];simp [qH]⟩
def yK (lv:Nat):List It->List It->List It
 |acc,[]=>acc
 |acc,[x]=>qx acc x
 |acc,x::y::r=>if fits lv x.x y.x=true then yK lv (qx acc ⟨.pair x.x y.x,none,1⟩) r else yK lv (qx acc x) (y::r)
termination_by _ l=>l.length
theorem Q0 (lv:Nat):∀ {M acc:List It},Sg acc->One M->Sg (yK lv acc M)∧zT (yK lv acc M)=zT acc++zH (fits lv) (zT M)
 |[],acc,h1,_=>by unfold yK;exact ⟨h1,by simp [qH,zH]⟩
 |[x],acc,h1,h2=>by
  have hx:=h2 x (by simp);obtain ⟨p1,p2⟩:=wV (i:=x) h1 ⟨hx.1,by omega⟩;unfold yK;exact ⟨p1,by rw [p2];simp [qn,qH,It.exp,hx.1,hx.2,zH]⟩
 |x::y::r,acc,h1,h2=>by
  have hx:=h2 x (by simp);have hy:=h2 y (by simp);have e:zT (x::y::r)=x.x::y.x::zT r:=(by simp [qn,It.exp,hx.1,hx.2,hy.1,hy.2]);have e2:zT (y::r)=y.x::zT r:=(by simp [qn,It.exp,hy.1,hy.2]);unfold yK;rw [e];by_cases hf:fits lv x.x y.x=true
  ·rw [if_pos hf,Q4 _ _ _ _ hf];obtain ⟨p1,p2⟩:=wV (i:=⟨.pair x.x y.x,none,1⟩) h1 ⟨rfl,zr _⟩;obtain ⟨q1,q2⟩:=Q0 lv (M:=r) p1 fun j hj=>h2 j (by simp [hj])
   exact ⟨q1,by rw [q2,p2,XF];simp⟩
  ·rw [if_neg hf,WB _ _ _ fun z hz=>by simp at hz;subst hz;simpa using hf];obtain ⟨p1,p2⟩:=wV (i:=x) h1 ⟨hx.1,by omega⟩;obtain ⟨q1,q2⟩:=Q0 lv (M:=y::r) p1 fun j hj=>h2 j (by simp at hj ⊢;exact .inr hj)
   refine ⟨q1,?_⟩;rw [q2,p2,e2];simp [It.exp,hx.1,hx.2]
termination_by M=>M.length
def Qi (l:List It) (i:It):List It×Option Tr:=match i.nx with
 |none=>(l,some i.x)
 |some y=>(qx l ⟨.pair i.x y,none,i.n⟩,none)
def xm (s:List It×Option Tr) (i:It):List It×Option Tr:=match s.2 with
 |none=>Qi s.1 i
 |some o=>if o.key=i.x.key then ((match i.nx with
   |some y=>if 1<i.n then qx (qx s.1 ⟨.pair o i.x,none,1⟩) ⟨.pair y i.x,none,i.n-1⟩ else qx s.1 ⟨.pair o i.x,none,1⟩
   |none=>qx s.1 ⟨.pair o i.x,none,1⟩),i.nx) else Qi (qx s.1 ⟨o,none,1⟩) i
def kU (s:List It×Option Tr):List It:=match s.2 with|none=>s.1|some o=>qx s.1 ⟨o,none,1⟩
section
variable {lv:Nat} (htie:yQ lv=true)
include htie
theorem VC {l:List It} {i:It} (hs:Sg l) (hi:TieI i) (Z:List Tr):Sg (Qi l i).1∧zT (Qi l i).1++zH (fits lv) ((Qi l i).2.toList++Z)=zT l++zH (fits lv) (i.exp++Z):=by
 obtain ⟨h1,h2⟩:=hi;unfold Qi;rcases h2 with ⟨h3,h4⟩|⟨y,h3,h4⟩
 ·rw [h3];exact ⟨hs,by simp [It.exp,h3,h4]⟩
 ·rw [h3];obtain ⟨p1,p2⟩:=wV (i:=⟨.pair i.x y,none,i.n⟩) hs ⟨rfl,h1⟩;refine ⟨p1,?_⟩;simp only [It.exp,h3];rw [p2,QB _ _ _ (by rw [kT htie];simpa using h4)];simp [It.exp]
theorem mStr1_ok {s:List It×Option Tr} {i:It} (hs:Sg s.1) (hi:TieI i) (Z:List Tr):Sg (xm s i).1∧zT (xm s i).1++zH (fits lv) ((xm s i).2.toList++Z)=zT s.1++zH (fits lv) (s.2.toList++(i.exp++Z)):=by
 obtain ⟨l,o⟩:=s;cases o with
 |none=>exact VC htie hs hi Z
 |some o =>
  unfold xm;simp only;by_cases hk:o.key=i.x.key
  ·rw [if_pos hk];have hf:fits lv o i.x=true:=(by rw [kT htie];simpa using hk);obtain ⟨p1,p2⟩:=wV (i:=⟨.pair o i.x,none,1⟩) hs ⟨rfl,zr _⟩;obtain ⟨h1,h2⟩:=hi;rcases h2 with ⟨h3,h4⟩|⟨y,h3,h4⟩
   ·rw [h3];refine ⟨p1,?_⟩;simp only [It.exp,h3,h4];rw [p2];simp only [qb,zv,zS,List.replicate_zero,zo];rw [Q4 _ _ _ _ hf];simp [It.exp]
   ·rw [h3];obtain ⟨n,hn⟩:=zA (show i.n≠0 by omega);have e1:(i.exp++Z)=i.x::(zd n [y,i.x]).flatten++(y::Z):=by
     simp only [It.exp,h3,hn,zS,List.flatten_cons,zo,zv,zQ];have:=J0 y i.x n;rw [← zo,this];simp
    have hf2:fits lv y i.x=true:=(by rw [kT htie];simpa using h4.symm);have e2:zH (fits lv) ((some o).toList++(i.exp++Z))=.pair o i.x::(zd n (Tr.pair y i.x)++zH (fits lv) (y::Z)):=by
     rw [e1];simp only [qb,zo,zv];rw [Q4 _ _ _ _ hf,QB _ _ _ hf2]
    rw [e2];simp only;by_cases h5:1<i.n
    ·rw [if_pos h5];obtain ⟨q1,q2⟩:=wV (i:=⟨.pair y i.x,none,i.n-1⟩) p1 ⟨rfl,by simp only;omega⟩;refine ⟨q1,?_⟩;rw [q2,p2];simp [It.exp,show i.n-1=n by omega]
    ·rw [if_neg h5];refine ⟨p1,?_⟩;rw [p2];simp [It.exp,show n=0 by omega]
  ·rw [if_neg hk];obtain ⟨p1,p2⟩:=wV (i:=⟨o,none,1⟩) hs ⟨rfl,zr _⟩;obtain ⟨q1,q2⟩:=VC htie (l:=qx l ⟨o,none,1⟩) p1 hi Z;refine ⟨q1,?_⟩;rw [q2,p2];simp only [qb,zo,zv,XF];rw [WB _ o (i.exp++Z) fun z hz=>?_]
   ·simp
   ·have:z=i.x:=by
     obtain ⟨h1,h2⟩:=hi;obtain ⟨n,hn⟩:=zA (show i.n≠0 by omega);rcases h2 with ⟨h3,h4⟩|⟨y,h3,h4⟩
     ·simp [It.exp,h3,h4] at hz;exact hz.symm
     ·simp [It.exp,h3,hn,zS] at hz;exact hz.symm
    subst this;rw [kT htie];simpa using hk
theorem Wx:∀ {M:List It} {s:List It×Option Tr},Sg s.1->Tie M->Sg (kU (M.foldl xm s))∧zT (kU (M.foldl xm s))=zT s.1++zH (fits lv) (s.2.toList++zT M)
 |[],(l,none),h1,_=>⟨h1,by simp [kU,qH,zH]⟩
 |[],(l,some o),h1,_=>by
  obtain ⟨p1,p2⟩:=wV (i:=⟨o,none,1⟩) h1 ⟨rfl,zr _⟩;exact ⟨p1,by simp only [zx,kU];rw [p2];simp [qH,zH,It.exp]⟩
 |i::M,s,h1,h2=>by
  obtain ⟨p1,p2⟩:=mStr1_ok htie h1 (h2 i (by simp)) (zT M);obtain ⟨q1,q2⟩:=Wx (M:=M) (s:=xm s i) p1 fun j hj=>h2 j (by simp [hj])
  exact ⟨q1,by rw [zB,q2,p2,qn]⟩
end
theorem ZK {b:Tr} {m:Nat} {e:qK} {R:List Tr} {M:List It} (hM:Sg M) (hr:EndR b m e R):∀ y,(zT M++R).head?=some y->kz M e=some y:=by
 intro y hy;cases M with
 |nil =>
  obtain ⟨p,o⟩:=e;simp only [qH,zv] at hy;cases o with
  |none=>obtain ⟨_,rfl⟩:=hr;cases hy
  |some x =>
   have hr:EdR b m p x R:=hr;rw [hr.eq] at hy;simpa [kz] using hy
 |cons i M =>
  have hi:=hM i (by simp);obtain ⟨n,hn⟩:=zA (show i.n≠0 by omega);simpa [qn,It.exp,hi.1,hn,zS,kz] using hy
theorem QZ {M:List It} (d:qK) (hM:Sg M):∀ z,(zT M).getLast?=some z->kj M d=some z:=by
 intro z hz;rcases yn M with rfl|⟨M',i,rfl⟩
 ·cases hz
 ·have hi:=hM i (by simp);obtain ⟨n,hn⟩:=zA (show i.n≠0 by omega);rw [jm] at hz;simp only [It.exp,hi.1,hn,xG] at hz;rw [← zQ] at hz;simpa [kj] using hz
theorem Y0 {a b:Tr} {m:Nat} {M M1 M2 M3:List It} {L R s P Q:List Tr} {d1 e2:qK} (hs:xf s m=L++zT M++R) (hl:LOk a m L R M d1 M1 P) (hr:ROk b m R M1 e2 M2 Q) (hm:zT M3=yc (m+1) (zT M2)):xf s (m+1)=P++zT M3++Q:=by
 obtain ⟨Y,y1,y2⟩:=hl.mv;obtain ⟨Z,z1,z2⟩:=hr.mv;show yc (m+1) (xf s m)=_
 have e1:L++zT M++R=P.flatMap (Tr.lay m)++(zT M1++R):=(by rw [y1,y2];simp);have e2:zT M1++R=zT M2++Q.flatMap (Tr.lay m):=(by rw [z2,z1];simp);rw [hs,e1,hl.cut,e2,hr.cut,hm,zQ]
def jY (l:List Tr):Nat:=(l.flatMap (Tr.lay 0)).length
theorem jp (a b:List Tr):jY (a++b)=jY a+jY b:=by simp [jY]
theorem Jz (m:Nat) (l:List Tr):jY (l.flatMap (Tr.lay m))=jY l:=by unfold jY;rw [QY (qy m)]
theorem LOk.let_ {a:Tr} {m:Nat} {L R P:List Tr} {M M1:List It} {d1:qK} (h:LOk a m L R M d1 M1 P):jY P<=jY L:=by
 obtain ⟨Y,h1,_⟩:=h.mv;rw [h1,jp,Jz];omega
theorem ROk.let_ {b:Tr} {m:Nat} {R Q:List Tr} {M M1:List It} {e1:qK} (h:ROk b m R M e1 M1 Q):jY Q<=jY R:=by
 obtain ⟨Y,h1,_⟩:=h.mv;rw [h1,jp,Jz];omega
structure SpI (a b:Tr) (s:List Tr) (i n m:Nat) (d e:qK) (M:List It):Prop where
 ca:Canon a
 cb:Canon b
 ex:∃ L R,EndL a m d L∧EndR b m e R∧xf s m=L++zT M++R∧jY L<=i∧jY R<=n
 sg:Sg M
 one:m%2=1->One M
def LevR (lv:Nat) (d e:qK) (M:List It) (d' e':qK) (M':List It):Prop :=
 if lv%2=1 then d'=upT false lv (yP lv d e M).1∧e'=upT true lv (jn lv (yP lv d e M).1 e (yP lv d e M).2).1∧M'=Qh (jn lv (yP lv d e M).1 e (yP lv d e M).2).2
 else if yQ lv=true then ∃ e2 M2,Xu lv e (qA lv d e M).2 e2 M2∧d'=upT false lv (qA lv d e M).1∧e'=upT true lv e2∧M'=kU (M2.foldl xm ([],none))
 else d'=upT false lv (qA lv d e M).1∧e'=upT true lv (wa lv (qA lv d e M).1 e (qA lv d e M).2).1∧M'=yK lv [] (wa lv (qA lv d e M).1 e (qA lv d e M).2).2
theorem VS {bk:Bool} {lv:Nat} {p:List (Tr×Nat)} (h:∀ q∈p,q.2<(zR q.1).length):1<=(j0 bk lv p).1:=by
 unfold j0;split
 ·simp
 ·rename_i q hq;obtain ⟨p',rfl,_⟩:=xk hq;have:=h q (by simp);simp only [hvT];split <;> omega
theorem Zip.lt {a x:Tr} {p:List (Tr×Nat)} (h:Zip a p x):∀ q∈p,q.2<(zR q.1).length:=by
 induction h with
 |root=>simp
 |down _ hc ih =>
  intro q hq;rcases zL.1 hq with rfl|hq
  ·exact yE hc
  ·exact ih q hq
theorem Vk {a:Tr} {m lv:Nat} {d e:qK} {M:List It} {L:List Tr} (hd:EndL a m d L) (hM:Sg M):Sg (yP lv d e M).2:=by
 obtain ⟨p,o⟩:=d;cases o with
 |none=>exact hM
 |some x =>
  have hd:EdL a m p x L:=hd;unfold yP;simp only;split
  ·intro i hi;rcases zL.1 hi with rfl|hi
   ·exact ⟨rfl,VS hd.zip.lt⟩
   ·exact hM i hi
  ·exact hM
theorem Vm {b:Tr} {m lv:Nat} {d e:qK} {M:List It} {R:List Tr} (hd:EndR b m e R) (hM:Sg M):Sg (jn lv d e M).2:=by
 obtain ⟨p,o⟩:=e;cases o with
 |none=>exact hM
 |some x =>
  have hd:EdR b m p x R:=hd;unfold jn;simp only;split
  ·intro i hi;rcases zl.1 hi with hi|hi
   ·exact hM i hi
   ·simp at hi;subst hi;exact ⟨rfl,VS hd.zip.lt⟩
  ·exact hM
theorem Qt {lv:Nat} {d e:qK} {M:List It} (hM:One M):One (qA lv d e M).2:=by
 unfold qA;split
 ·exact hM
 ·split
  ·exact hM
  ·intro i hi;rcases zL.1 hi with rfl|hi
   ·exact ⟨rfl,rfl⟩
   ·exact hM i hi
theorem Wd {lv:Nat} {d e:qK} {M:List It} (hM:One M):One (wa lv d e M).2:=by
 unfold wa;split
 ·exact hM
 ·split
  ·exact hM
  ·intro i hi;rcases zl.1 hi with hi|hi
   ·exact hM i hi
   ·simp at hi;subst hi;exact ⟨rfl,rfl⟩
theorem SpI.next {a b:Tr} {s:List Tr} {i n m:Nat} {d e d' e':qK} {M M':List It} (h:SpI a b s i n m d e M) (hr:LevR (m+1) d e M d' e' M'):SpI a b s i n (m+1) d' e' M':=by
 obtain ⟨L,R,h1,h2,h3,h4,h5⟩:=h.ex;unfold LevR at hr;by_cases he:m%2=0
 ·rw [if_pos (by omega)] at hr;obtain ⟨rfl,rfl,rfl⟩:=hr;obtain ⟨P,hl⟩:=Vj he h.ca h1 (ZK h.sg h2);have hsg:=Vk (lv:=m+1) (e:=e) h1 h.sg;obtain ⟨Q,hq⟩:=Vl he h.cb h2 (QZ (yP (m+1) d e M).1 hsg);have hsg2:=Vm (lv:=m+1) (d:=(yP (m+1) d e M).1) h2 hsg;obtain ⟨m1,m2⟩:=VB hsg2;exact ⟨h.ca,h.cb,⟨P,Q,hl.up,hq.up,Y0 h3 hl hq (by rw [m2,xE he]),qs hl.let_ h4,qs hq.let_ h5⟩,m1.sg,fun _=>m1⟩
 ·rw [if_neg (by omega)] at hr;have ho:m%2=1:=(by omega);have hone:=h.one ho;obtain ⟨P,hl⟩:=Yz ho h.ca h1 (ZK h.sg h2);have hone1:=Qt (lv:=m+1) (d:=d) (e:=e) hone;split at hr
  ·rename_i ht;obtain ⟨e2,M2,hg,rfl,rfl,rfl⟩:=hr;obtain ⟨⟨Q,hq⟩,hT⟩:=gStr_ok ho ht h.cb h2 hone1 hg;obtain ⟨m1,m2⟩:=Wx ht (M:=M2) (s:=([],none)) (fun i hi=>by simp at hi) hT;exact ⟨h.ca,h.cb,⟨P,Q,hl.up,hq.up,Y0 h3 hl hq (by rw [m2,yH ho];simp [qH]),qs hl.let_ h4,qs hq.let_ h5⟩,m1,fun h=>by omega⟩
  ·rename_i ht;obtain ⟨rfl,rfl,rfl⟩:=hr;obtain ⟨Q,hq⟩:=Jt ho (by simpa using ht) h.cb h2 (QZ (qA (m+1) d e M).1 hone1.sg);have hone2:=Wd (lv:=m+1) (d:=(qA (m+1) d e M).1) (e:=e) hone1;obtain ⟨m1,m2⟩:=Q0 (m+1) (M:=(wa (m+1) (qA (m+1) d e M).1 e (qA (m+1) d e M).2).2) (acc:=[]) (fun i hi=>by simp at hi) hone2;exact ⟨h.ca,h.cb,⟨P,Q,hl.up,hq.up,Y0 h3 hl hq (by rw [m2,yH ho];simp [qH]),qs hl.let_ h4,qs hq.let_ h5⟩,m1,fun h=>by omega⟩
theorem SpI.start {a b:Tr} {i j:Nat} {d e:qK} (ca:Canon a) (cb:Canon b) (hl:EndL a 0 d ((a.lay 0).take i)) (hr:EndR b 0 e ((b.lay 0).drop j)):SpI a b ((a.lay 0).take i++(b.lay 0).drop j) i ((b.lay 0).length-j) 0 d e []:=by
 have flat0:∀ {l:List Tr},xi l->l.flatMap (Tr.lay 0)=l:=fun h=>jU fun t ht=>by obtain ⟨b,rfl⟩:=h t ht;simp [Tr.lv,Tr.lev]
 refine ⟨ca,cb,⟨_,_,hl,hr,by simp [xf,qH],?_,?_⟩,fun i hi=>by simp at hi,fun h=>by simp at h⟩
 ·unfold jY;rw [flat0 fun t ht=>ca.leaves t (List.mem_of_mem_take ht)];simp;omega
 ·unfold jY;rw [flat0 fun t ht=>cb.leaves t (List.mem_of_mem_drop ht)];simp
theorem SpI.done {a b T:Tr} {s:List Tr} {i n m k:Nat} {d e:qK} {nx:Option Tr} (h:SpI a b s i n m d e [⟨T,nx,1⟩]) (hs:xi s) (h1:d.2=none) (h2:e.2=none):Canon T∧T.lay 0=s∧T.Upto m:=by
 obtain ⟨L,R,hl,hr,h3,_⟩:=h.ex;obtain ⟨p,o⟩:=d;obtain ⟨q,o2⟩:=e;simp only at h1 h2;subst h1 h2;obtain ⟨rfl,rfl⟩:=hl;obtain ⟨rfl,rfl⟩:=hr;have:=(h.sg ⟨T,nx,1⟩ (by simp)).1;simp only at this;subst this;exact ZF hs (by rw [h3];simp [qn,qH,It.exp])
theorem Jg {a x:Tr} {m:Nat} {p:List (Tr×Nat)} (ga:a.Gd) (hz:Zip a p x) (ha:vp m p) (hl:a.lv<=m):p=[]∧x=a:=by
 cases hz with
 |root=>exact ⟨rfl,rfl⟩
 |@down p t j c h1 h2 =>
  have:=ha (t,j) (by simp);have h3:t.lv<=a.lv:=by
   have:=((Zip.down h1 h2).gd ga).2 (t,j) (by simp);exact this.2.2
  simp only at this;omega
theorem SpI.ends {a b:Tr} {s:List Tr} {i n m:Nat} {d e:qK} {M:List It} (h:SpI a b s i n m d e M) (hs:xi s) (hne:s≠[]) (hlen:s.length=i+n) (hmax:s.length<=1152921504606846976) (hm:25339<=m) (ha:a.lv<=25339) (hb:b.lv<=25339)
  (hi:i<=(a.lay 0).length) (hn:n<=(b.lay 0).length) (h1:¬ (i=0∧n=(b.lay 0).length)) (h2:¬ (n=0∧i=(a.lay 0).length)):d.2=none∧e.2=none∧∃ T,M=[⟨T,none,1⟩]:=by
 obtain ⟨T0,hT0⟩:=seq_one hs hne hmax;have hT:xf s m=[T0]:=by
  have:∀ k,xf s (25339+k)=[T0]:=fun k=>by
   induction k with
   |zero=>exact hT0
   |succ k ih=>rw [← wA,show xf s (25339+k+1)=yc (25339+k+1) (xf s (25339+k)) from rfl,ih,WT]
  rw [show m=25339+(m-25339) by omega];exact this _
 obtain ⟨_,hl0,_⟩:=ZF hs hT;have hTl:(T0.lay 0).length=i+n:=(by rw [hl0,hlen]);obtain ⟨L,R,hl,hr,h3,h4,h5⟩:=h.ex;rw [hT] at h3;have hlL:=congrArg ym h3;simp only [zi,zw,zC] at hlL;obtain ⟨p,o⟩:=d;obtain ⟨q,o2⟩:=e;have hd:o=none:=by
  cases o with
  |none=>rfl
  |some x =>
   exfalso;have hl:EdL a m p x L:=hl;obtain ⟨rfl,rfl⟩:=Jg h.ca.gd hl.zip hl.above (by omega);have e1:=hl.eq;simp only [qi,zv] at e1;have hl1:L.length=1:=(by rw [e1];rfl);have hR:R=[]:=qe (by omega);have hM:zT M=[]:=qe (by omega);rw [e1,hR,hM] at h3;simp at h3;rw [e1] at h4;simp only [jY,zt,wW,qO] at h4;rw [h3] at hTl;exact h2 ⟨by omega,by omega⟩
 have he:o2=none:=by
  cases o2 with
  |none=>rfl
  |some x =>
   exfalso;have hr:EdR b m q x R:=hr;obtain ⟨rfl,rfl⟩:=Jg h.cb.gd hr.zip hr.above (by omega);have e1:=hr.eq;simp only [tl] at e1;have hr1:R.length=1:=(by rw [e1];rfl);have hL:L=[]:=qe (by omega);have hM:zT M=[]:=qe (by omega);rw [e1,hL,hM] at h3;simp at h3;rw [e1] at h5;simp only [jY,zt,wW,qO] at h5;rw [h3] at hTl;exact h1 ⟨by omega,by omega⟩
 subst hd he;obtain ⟨rfl,rfl⟩:=hl;obtain ⟨rfl,rfl⟩:=hr;refine ⟨rfl,rfl,T0,?_⟩;simp only [zv,qO] at h3;cases M with
 |nil=>simp [qH] at h3
 |cons j M =>
  have hj:=h.sg j (by simp);have hlen2:=congrArg ym h3;have hM:M=[]:=by
   cases M with
   |nil=>rfl
   |cons k M =>
    exfalso;have hk:=h.sg k (by simp);simp [qn,It.exp,hj.1,hk.1] at hlen2;omega
  subst hM;obtain ⟨x,nx,c⟩:=j;simp only at hj;obtain rfl:nx=none:=hj.1;simp [qn,qH,It.exp] at hlen2;obtain rfl:c=1:=by omega
  simp [qn,qH,It.exp] at h3;rw [h3]
end
section
open Go.RowKit Go.Maps
def EndZ (a:Tr) (d:qK):Prop:=match d.2 with|some x=>Zip a d.1 x|none=>d.1=[]
theorem EndZ.ofL {a:Tr} {m:Nat} {d:qK} {L:List Tr} (h:EndL a m d L):EndZ a d:=by
 obtain ⟨p,o⟩:=d;cases o with
 |none=>exact h.1
 |some x=>exact (show EdL a m p x L from h).zip
theorem EndZ.ofR {a:Tr} {m:Nat} {d:qK} {R:List Tr} (h:EndR a m d R):EndZ a d:=by
 obtain ⟨p,o⟩:=d;cases o with
 |none=>exact h.1
 |some x=>exact (show EdR a m p x R from h).zip
theorem Zip.room {a x:Tr} {p:List (Tr×Nat)} (h:Zip a p x) (ga:a.Gd):p.length+x.lv<=a.lv:=by
 induction h with
 |root=>simp
 |@down p t j c h1 hc ih =>
  have:=((h1.gd ga).1.kid (zy hc)).2;simp only [zw];omega
structure EndIn (X:Px) (bk:Bool) (cs:Array Value) (o:Nat) (pv:Value) (fs:List Fr) (id ky:Nat) (d:qK):Prop where
 at_:EndAt cs o X.p bk pv id ky
 path:PathOf X.S bk d.1 fs
 sym:match d.2 with|some x=>Den X.S id x∧ky=x.key|none=>id=0∧ky=0
theorem EndIn.ext {X X':Px} {bk:Bool} {cs:Array Value} {o:Nat} {pv:Value} {fs:List Fr} {id ky:Nat} {d:qK} (h:EndIn X bk cs o pv fs id ky d) (hX:X.S.Ok) (he:X.Ext X'):EndIn X' bk cs o pv fs id ky d:=by
 refine ⟨by rw [he.p];exact h.at_,h.path.le hX he.le,?_⟩;have:=h.sym;cases hd:d.2 with
 |none=>rw [hd] at this;exact this
 |some x=>rw [hd] at this;exact ⟨this.1.le hX he.le,this.2⟩
theorem EndIn.other {X:Px} {bk:Bool} {cs cs':Array Value} {o o':Nat} {pv:Value} {fs:List Fr} {id ky:Nat} {d:qK} (h:EndIn X bk cs o pv fs id ky d) (ha:AlikeBut cs cs' o') (hd:o+5<=o'∨o'+5<=o):EndIn X bk cs' o pv fs id ky d:=⟨h.at_.other ha hd,h.path,h.sym⟩
theorem EndIn.id_zero {X:Px} {bk:Bool} {cs:Array Value} {o:Nat} {pv:Value} {fs:List Fr} {id ky:Nat} {d:qK} (h:EndIn X bk cs o pv fs id ky d):id=0↔d.2=none:=by
 have:=h.sym;cases hd:d.2 with
 |none=>rw [hd] at this;simp [this.1]
 |some x=>rw [hd] at this;have:=this.1.1;simp;omega
theorem PathOf.last {S:Sto} {bk:Bool} {p:List (Tr×Nat)} {fs:List Fr} {f:Fr} (h:PathOf S bk p (fs++[f])):∃ q p',p=q::p'∧FrOf S bk q f∧PathOf S bk p' fs:=by
 cases p with
 |nil =>
  have:fs++[f]=[]:=h;simp at this
 |cons q p =>
  obtain ⟨fs',f',h1,h2,h3⟩:=h;have:=List.append_inj' h1 rfl;obtain ⟨rfl,h4⟩:=this;simp at h4;subst h4;exact ⟨q,p,rfl,h2,h3⟩
theorem FrOf.hvT {S:Sto} {bk:Bool} {q:Tr×Nat} {f:Fr} (h:FrOf S bk q f):f.hv=hvT bk q:=h.hv
theorem FrOf.whole {S:Sto} (hS:S.Ok) {bk:Bool} {q:Tr×Nat} {f:Fr} (h:FrOf S bk q f):xF f.r=(zR q.1).length:=by
 obtain ⟨i,x,h1,h2,h3⟩:=h.rule;have hd:=h.den;rw [h1] at hd;rw [h3];exact (jX hS h2 hd.2.2 (by have:=h.lt;omega)).1
theorem FrOf.lv {S:Sto} {bk:Bool} {q:Tr×Nat} {f:Fr} (h:FrOf S bk q f):q.1.lv=f.lev:=wv h.lev
theorem FrOf.times {S:Sto} (hS:S.Ok) {bk:Bool} {q:Tr×Nat} {f:Fr} (h:FrOf S bk q f) (ho:f.lev%2=1):f.r.times=(zR q.1).length:=by
 obtain ⟨t,j⟩:=q;obtain ⟨i,x,h1,h2,h3⟩:=h.rule;have hd:=h.den;have hl:=h.lev;simp only at hd hl;rw [h1] at hd;have hlt:=h.lt;simp only at hlt;rcases (jX hS h2 hd.2.2 (by omega)).2 with ⟨l,r,u,v,e,rfl,_,_⟩|⟨l,u,k,e,rfl,_,_⟩
 ·obtain ⟨_,b,c,_,_,_,_,_,h4⟩:=wT hl;omega
 ·rw [h3,e];simp [zR]
theorem FrOf.two {S:Sto} (hS:S.Ok) {bk:Bool} {q:Tr×Nat} {f:Fr} (h:FrOf S bk q f) (he:f.lev%2=0):∃ u v,q.1=.pair u v∧Den S f.r.left u∧Den S f.r.right v:=by
 obtain ⟨t,j⟩:=q;obtain ⟨i,x,h1,h2,h3⟩:=h.rule;have hd:=h.den;have hl:=h.lev;simp only at hd hl;rw [h1] at hd;have hlt:=h.lt;simp only at hlt;rcases (jX hS h2 hd.2.2 (by omega)).2 with ⟨l,r,u,v,e,rfl,d1,d2⟩|⟨l,u,k,e,rfl,_,_⟩
 ·rw [h3,e];exact ⟨u,v,rfl,d1,d2⟩
 ·obtain ⟨b,_,h4,h5⟩:=jq hl;omega
theorem ja:∀ {t:Tr},t.Pow2->1<=t.len
 |.leaf _,_=>zr _
 |.pair l r,h=>by have:=ja h.1;simp only [Tr.len];omega
 |.pow s k,h=>by
  have h1:=ja h.1;have:=ZB h1 h.2;simp only [Tr.len];omega
theorem xP:∀ {t:Tr},t.Gd->(t.lay 0).length=t.len
 |.leaf _,_=>rfl
 |.pair l r,h=>by
  have h1:=h.kid (c:=l) (by simp [zR]);have h2:=h.kid (c:=r) (by simp [zR]);rw [x7 (by omega)];simp only [zR,zt,wW,qO,zi,Tr.len];rw [xP h1.1,xP h2.1]
 |.pow s k,h=>by
  have h2:2<=k:=h.2.2;have h1:=h.kid (c:=s) (wq.2 ⟨by omega,rfl⟩);rw [x7 (by omega)];simp only [zR,Tr.len,jc,List.length_flatten,Qa,Xz];rw [xP h1.1,xO]
theorem FrOf.kids_le {S:Sto} (hS:S.Ok) {bk:Bool} {q:Tr×Nat} {f:Fr} (h:FrOf S bk q f):(zR q.1).length<=yG:=by
 obtain ⟨i,x,h1,h2,h3⟩:=h.rule;have hd:=h.den;rw [h1] at hd;have e:=hd.2.2;cases xh hS h2 with
 |letter b hb hr hw ht=>rw [← e,ht];simp [zR]
 |pair l r y z hl hr hy hz he hw hs ht=>rw [← e,ht];simp [zR,yG]
 |pow l k y hl hy hk he hw hs ht =>
  rw [← e,ht];simp only [zR,qr];have h4:=j1 hS l y hy;have h5:=ja h4.2;rw [h4.1] at h5;have:=y9 k h5;omega
theorem FrOf.hv_le {S:Sto} (hS:S.Ok) {bk:Bool} {q:Tr×Nat} {f:Fr} (h:FrOf S bk q f):f.hv<=1152921504606846976:=by
 have h1:=h.kids_le hS;have h2:=h.hv;have h3:=h.lt;simp only [yG] at h1;cases bk <;> simp at h2 <;> omega
theorem JZ {lv:Nat} {q:Tr×Nat} {p:List (Tr×Nat)} (h:q.1.lv=lv):yZ lv (q::p)=some q:=by simp [yZ,h]
theorem topAt_miss {lv:Nat} {q:Tr×Nat} {p:List (Tr×Nat)} (h:q.1.lv≠lv):yZ lv (q::p)=none:=by simp [yZ,h]
theorem upT_nil (bk:Bool) (m:Nat) (s:Option Tr):upT bk m ([],s)=([],s):=by cases s <;> rfl
theorem upT_eq {bk:Bool} {m:Nat} {q:Tr×Nat} {p:List (Tr×Nat)} {x:Tr} (hlt:q.2<(zR q.1).length):upT bk m (q::p,some x)=if q.1.lv=m∧hvT bk q=(zR q.1).length then (p,some q.1) else (q::p,some x):=by
 obtain ⟨t,j⟩:=q;simp only at hlt;unfold upT hvT;simp only;by_cases h1:t.lv=m
 ·by_cases h2:(if bk then j=0 else j+1=(zR t).length)
  ·rw [if_pos ⟨h1,h2⟩,if_pos ⟨h1,by cases bk <;> simp at h2 ⊢ <;> omega⟩]
  ·rw [if_neg (fun h=>h2 h.2),if_neg (fun h=>h2 (by have:=h.2;cases bk <;> simp at this ⊢ <;> omega))]
 ·rw [if_neg (fun h=>h1 h.1),if_neg (fun h=>h1 h.1)]
theorem dropT_eq {bk:Bool} {m n:Nat} {q:Tr×Nat} {p:List (Tr×Nat)} (hlt:q.2<(zR q.1).length):qZ bk m n (q::p)=if n<hvT bk q then ((yF bk m ((q.1,if bk then q.2+n else q.2-n)::p) ((zR q.1).getD (if bk then q.2+n else q.2-n) q.1)).1,some (yF bk m ((q.1,if bk then q.2+n else q.2-n)::p) ((zR q.1).getD (if bk then q.2+n else q.2-n) q.1)).2) else qZ bk m 1 p:=by
 obtain ⟨t,j⟩:=q;simp only at hlt;unfold hvT;conv=>lhs;unfold qZ
 cases bk with
 |true =>
  simp only [if_true];by_cases h:j+n<(zR t).length
  ·rw [if_pos h,if_pos (by omega)]
  ·rw [if_neg h,if_neg (by omega)]
 |false =>
  simp only [xA,if_false];by_cases h:n<=j
  ·rw [if_pos h,if_pos (by omega)]
  ·rw [if_neg h,if_neg (by omega)]
theorem FrOf.less {S:Sto} {bk:Bool} {q:Tr×Nat} {f:Fr} {n:Nat} (h:FrOf S bk q f) (hn:n<f.hv):FrOf S bk (q.1,if bk then q.2+n else q.2-n) ⟨f.id,f.r,f.lev,f.hv-n⟩:=by
 have h1:=h.hv;have h2:=h.lt;refine ⟨h.den,h.lev,h.rule,?_,?_⟩
 ·simp only;cases bk <;> simp at h1 ⊢ <;> omega
 ·simp only;cases bk <;> simp at h1 ⊢ <;> omega
section
variable {w:World} {ty g n c:Nat} {fs:List Fr} {i:Nat} {f:Fr}
theorem xg (h:(zc ze ty 8 (.slice (some ⟨g,0,none⟩) n c) fs).ho w) (hx:fs[i]?=some f) {j:Nat} {u:Value} (hj:f.cells[j]?=some u):w.cell? ⟨g,i*8+j,none⟩=some u:=qj h xM hx hj
theorem fr_rule (h:(zc ze ty 8 (.slice (some ⟨g,0,none⟩) n c) fs).ho w) (hx:fs[i]?=some f):w.rangeAt g (i*8+1) [.int .i64 f.r.kind,.int .u8 f.r.letter,.int .i64 f.r.left,.int .i64 f.r.right,.int .i64 f.r.times]:=by
 intro j u hj;have e:(ze f)[j+1]?=([.int .i64 f.r.kind,.int .u8 f.r.letter,.int .i64 f.r.left,.int .i64 f.r.right,.int .i64 f.r.times]++[.int .i64 f.lev,.int .i64 f.hv]:List Value)[j]?:=rfl;have:=wd h xM hx (j+1) u (by rw [e,qv (qI hj)];exact hj);rwa [show i*8+(j+1)=i*8+1+j by omega] at this
end
def As.both (A B:As):As:=⟨A.fp++B.fp,fun w=>A.ho w∧B.ho w,fun w w' h hw=>⟨A.loc w w' (fun b hb=>h b (by simp [hb])) hw.1,B.loc w w' (fun b hb=>h b (by simp [hb])) hw.2⟩,fun w hw b hb=>by
 rcases zl.1 hb with hb|hb
 ·exact A.lt w hw.1 b hb
 ·exact B.lt w hw.2 b hb⟩
abbrev xY (X:Px) (bk:Bool) (b o:Nat) (ty:TypeId) (cs:Array Value) (d':qK) (M:List Nat) (w:World) (v:Value) (e:Ending) (w':World):Prop :=
 ∃ (X':Px) (cs':Array Value) (pv':Value) (fs':List Fr) (id' ky':Nat),e=.returned v∧X.Ext X'∧zK X'∧X'.S=X.S∧EndIn X' bk cs' o pv' fs' id' ky' d'∧AlikeBut cs cs' o∧St w M [pA X',blk b (.cells cs' ty),zc ze 265 8 pv' fs'] w'
end
section
open Go.RowKit Go.Maps
attribute [local go_sem] qt
def Tr.txt:Tr->List Nat
 |.leaf b=>[b]
 |.pair l r=>l.txt++r.txt
 |.pow s k=>(zd k s.txt).flatten
def Tr.cst:Tr->Nat
 |.leaf _=>1
 |.pair l r=>1+l.cst+r.cst
 |.pow s k=>1+k*s.cst
theorem Tr.txt_len:∀ t:Tr,t.txt.length=t.len
 |.leaf _=>rfl
 |.pair l r=>by simp [Tr.txt,Tr.len,Tr.txt_len l,Tr.txt_len r]
 |.pow s k=>by simp [Tr.txt,Tr.len,Tr.txt_len s,xO]
def j8 (x:Nat×Nat):List Value:=[.int .i64 x.1,.int .i64 x.2]
theorem jk (x:Nat×Nat):(j8 x).length=2:=rfl
theorem Jo (x:Nat×Nat):∀ u∈j8 x,u.oneCell'=true:=by
 intro u hu;simp [j8] at hu;rcases hu with rfl|rfl <;> rfl
theorem Vd (x:Nat):∀ u∈qN x,u.oneCell'=true:=by
 intro u hu;simp [qN] at hu;subst hu;rfl
def YN (S:Sto):List (Nat×Nat)->List Nat
 |[]=>[]
 |q::r=>YN S r++(zd q.2 (S.tr q.1).txt).flatten
def Yc (S:Sto):List (Nat×Nat)->Nat
 |[]=>0
 |q::r=>Yc S r+q.2*(S.tr q.1).cst
theorem kO (S:Sto):∀ (l:List (Nat×Nat)) (q:Nat×Nat),YN S (l++[q])=(zd q.2 (S.tr q.1).txt).flatten++YN S l
 |[],q=>by simp [YN]
 |a::l,q=>by simp [YN,kO S l q]
theorem kN (S:Sto):∀ (l:List (Nat×Nat)) (q:Nat×Nat),Yc S (l++[q])=q.2*(S.tr q.1).cst+Yc S l
 |[],q=>by simp [Yc]
 |a::l,q=>by simp [Yc,kN S l q];omega
def V1 (S:Sto) (l:List (Nat×Nat)):Prop:=∀ q∈l,1<=q.1∧q.1<=S.list.length∧1<=q.2∧q.2<=yG
theorem tr_pos {S:Sto} (hS:S.Ok) {i:Nat} (h1:1<=i) (h2:i<=S.list.length):1<=(S.tr i).len:=by
 obtain ⟨j,rfl⟩:∃ j,i=j+1:=⟨i-1,by omega⟩
 exact ja (j1 hS j _ (zg (by omega))).2
theorem KR {S:Sto} (hS:S.Ok):∀ {l:List (Nat×Nat)},V1 S l->l.length<=(YN S l).length
 |[],_=>qy _
 |q::r,h=>by
  have h1:=KR hS (l:=r) fun x hx=>h x (by simp [hx])
  have h2:=h q (by simp);have h3:=tr_pos hS h2.1 h2.2.1;have h4:((zd q.2 (S.tr q.1).txt).flatten).length=q.2*(S.tr q.1).len:=(by simp [Tr.txt_len]);have h5:1*1<=q.2*(S.tr q.1).len:=ZB h2.2.2.1 h3;simp only [YN,zi,zw];omega
theorem snoc_cp (l:List (Nat×Nat)):l=[]∨∃ L k,l=L++[k]:=by
 rcases List.eq_nil_or_concat l with h|⟨L,k,h⟩
 ·exact .inl h
 ·exact .inr ⟨L,k,by simpa using h⟩
def j9 (l:List (Nat×Nat)) (x k:Nat):List (Nat×Nat):=if k=0 then l else l++[(x,k)]
theorem popC_txt (S:Sto) (l:List (Nat×Nat)) (x k:Nat):YN S (l++[(x,k+1)])=(S.tr x).txt++YN S (j9 l x k):=by
 unfold j9;rw [kO];split
 ·rename_i h;subst h;simp
 ·rw [kO,zS];simp
theorem popC_cst (S:Sto) (l:List (Nat×Nat)) (x k:Nat):Yc S (l++[(x,k+1)])=(S.tr x).cst+Yc S (j9 l x k):=by
 unfold j9;rw [kN];split
 ·rename_i h;subst h;simp
 ·rw [kN];simp only [xl,QK];omega
theorem popC_ok {S:Sto} {l:List (Nat×Nat)} {x k:Nat} (h:V1 S (l++[(x,k+1)])):V1 S (j9 l x k):=by
 unfold j9;split
 ·exact fun q hq=>h q (by simp [hq])
 ·rename_i hk;intro q hq;rcases zl.1 hq with hq|hq
  ·exact h q (by simp [hq])
  ·have:=h (x,k+1) (by simp);simp at hq;subst hq;simp only at this ⊢;omega
theorem AtSlice.litJ {t e:TypeId} {n:Nat} {ps:Array (Nat×Operand)} {ops:Array Oper} {Q:Exit->Act->World->Prop} {rest:List Oper} {a:Act} {w w0:World} {M:List Nat} {L:List As} {o1:Oper} (H:St w0 M L w) (hw:Region.wanted o1 (yielded ops a.tmps)=true) (ho:o1.op=.buildSlice t n ps) (hte:yv t=some e) {z:Value} {k bytes:Nat} {cs:Array Value} (hi:xx e=some (z,k,bytes)) (hn:¬ n*k > 2 ^ 24) (hn0:¬ n*k=0)
  (hf:Instr.fill (fun i=>some (i*k,k)) ((Array.range (n*k)).map (z.cells[·%z.cells.size]!)) (ps.map fun (i,x)=>(i,a.eval x)).toList=some cs)
  (h:∀ b w',St w0 M (blk b (.cells cs e)::L) w'->wpList zb ops Q rest (a.put o1.dst (.slice (some ⟨b,0,none⟩) n n)) w'):AtSlice zb ops Q o1 t n ps rest a w :=
 wpList_step fun _ hK=>by
  rw [if_pos hw];obtain ⟨i,h2,h3,h4,h5⟩:=x6 hi;have hr:=run_buildSlice (P:=zb) w t e n (ps.map fun (i,x)=>(i,a.eval x)) cs i z (yi hte) h2 h3 (by rw [h4];exact hn) (by rw [h4];exact hn0) (by rw [h4];exact hf);unfold Oper.wp execOp;simp only [ho,Sem.run_bind,hr,Result.andThen_ok,Sem.run_pure];exact hK _ _ (h _ _ (H.alloc _))
def SpelRel (S:Sto) (N:List Nat) (w:World) (bt:Nat) (full:List Nat) (n:Nat) (v:Value) (wr:World):Prop :=
 ∃ (st:List (Nat×Nat)) (txt:List Nat) (v1:Value),n=Yc S st∧(V1 S st∧txt++YN S st=full)∧St w N [zc j8 234 2 v st,blk bt (.cells #[v1] 42),zc qN 5 1 v1 txt] wr
attribute [local go_sem] StStep jw yM in
theorem spell_c {p m bt id:Nat} {lv v:Value} {S:Sto} {txt:List Nat} (hS:S.Ok) (h1:1<=id) (h2:id<=S.list.length) (hl:txt.length+(S.tr id).txt.length<=1048576) (w:World) (h:((blk bt (.cells #[v] 42)).sep (zc qN 5 1 v txt)).ho w) (hs:((((blk bt (.cells #[v] 42)).sep (zc qN 5 1 v txt))).sep (qF p lv m S)).ho w) :
  Calls zb 112 #[.pointer (some ⟨p,0,none⟩),.int .i64 (id:Nat),.pointer (some ⟨bt,0,none⟩)] w fun e w'=>∃ v':Value,e=.returned .nilIface∧St w ((blk bt (.cells #[v] 42)).sep (zc qN 5 1 v txt)).fp [blk bt (.cells #[v'] 42),zc qN 5 1 v' (txt++(S.tr id).txt)] w':=by
 have H:=(St.one h).sep;rw [qz] at hs;have HK:Ks w ((blk bt (.cells #[v] 42)).sep (zc qN 5 1 v txt)).fp [qF p lv m S]:=⟨by simpa using hs.2.1,by simpa using fun b hb hm=>hs.2.2 b hm hb⟩
 generalize ((blk bt (.cells #[v] 42)).sep (zc qN 5 1 v txt)).fp=N at H HK ⊢;obtain ⟨full,hfull⟩:∃ l,txt++(S.tr id).txt=l:=⟨_,rfl⟩
 have hfl:full.length<=1048576:=(by rw [← hfull,zi];exact hl);rw [hfull];have HIN:Hid (S.Ok∧1<=id∧id<=S.list.length∧txt++(S.tr id).txt=full):=zh ⟨hS,h1,h2,hfull⟩;clear hS h1 h2 hl h hs hfull;go_enter Tryz.func112,Tryz.ntmps112;go_wp2_with (first|refine sL ?_|(refine sS ?_;clear H;intros;rename_i H)|((with_reducible refine qV ?_);refine AtSlice.one H rfl rfl rfl rfl rfl rfl rfl rfl rfl ?_;clear H;intro b9 _ H;simp only [Act.put,puA,puB,puC]));replace H:=H.conv (A':=zc j8 234 2 (.slice (some ⟨b9,0,none⟩) 1 1) [(id,1)]) (by rw [qS,w8];rfl) fun hb=>Zi (xs:=[(id,1)]) (by rw [xp] at hb;exact hb) (by simp [maxLen]) (by simp [zU,j8]) jk
 go_loopg [7] (Yc S [(id,1)]) (fun n v7 wr=>SpelRel S N w bt full n v7 wr);case atStart=>exact ⟨[(id,1)],txt,v,rfl,⟨by intro q hq;simp at hq;subst hq;have:=HIN.out;simp only;unfold yG;omega,by rw [← HIN.out.2.2.2];simp [YN]⟩,H⟩
 case round =>
  clear H;obtain ⟨st,txt1,v1,rfl,hrel,H⟩:=hrel;obtain ⟨ad2,c2,rfl,_⟩:=zE (H.get (A:=zc j8 234 2 _ st) pk);have hsb:st.length<=1048576:=by
   have e1:=KR HIN.out.1 hrel.1;have e2:=congrArg ym hrel.2;rw [zi] at e2;omega
  rcases snoc_cp st with h0|⟨st0,⟨x,kk⟩,h0⟩
  ·subst h0;have hfe:txt1=full:=(by simpa [YN] using hrel.2);subst hfe;clear hrel;simp only [zC] at H ⊢;go_wp2_with (first|refine sL ?_|(refine sS ?_;clear H;intros;rename_i H));go_ret;exact ⟨v1,rfl,H.picks (.cons pk (.cons pk .nil))⟩
  ·subst h0;have hq:=hrel.1 (x,kk) (by simp);simp only at hq;obtain ⟨k,rfl⟩:∃ k,kk=k+1:=⟨kk-1,by omega⟩
   have HR:Hid (V1 S (j9 st0 x k)∧txt1++((S.tr x).txt++YN S (j9 st0 x k))=full∧Yc S (st0++[(x,k+1)])=(S.tr x).cst+Yc S (j9 st0 x k)):=zh ⟨popC_ok hrel.1,by rw [← popC_txt];exact hrel.2,popC_cst S st0 x k⟩;obtain ⟨k1,hk1⟩:∃ n,st0.length=n:=⟨_,rfl⟩
   obtain ⟨n2,hn2⟩:∃ n,k1+1=n:=⟨_,rfl⟩
   have hl2:(st0++[(x,k+1)]).length=n2:=(by simp [hk1];omega);rw [hl2] at H hsb ⊢;obtain ⟨g,c9,e9,hc9,hm9⟩:=q8 (H.get (A:=zc j8 234 2 (.slice ad2 n2 c2) (st0++[(x,k+1)])) pk) (by simp);injection e9 with e9 e10 e11
   subst e11;clear e10;subst e9;rw [hl2] at hc9;unfold maxLen at hm9;have d0:decide ((0:Int)<(n2:Int))=true:=(by simp;omega);have d0n:decide (0<n2)=true:=(by simp;omega);have i5:k1<=c2:=(by omega);have hki:(st0++[(x,k+1)])[k1]?=some (x,k+1):=(by rw [← hk1];simp);have HO0:Hid (∀ w,(zc j8 234 2 (.slice (some ⟨g,0,none⟩) n2 c2) (st0++[(x,k+1)])).ho w->w.cell? ⟨g,k1*2,none⟩=some (.int .i64 (x:Nat))):=zh fun w h=>qj h jk hki (j:=0) rfl
   have HO1:Hid (∀ w,(zc j8 234 2 (.slice (some ⟨g,0,none⟩) n2 c2) (st0++[(x,k+1)])).ho w->w.cell? ⟨g,k1*2+1,none⟩=some (.int .i64 ((k:Int)+1))):=zh fun w h=>qj h jk hki (j:=1) rfl
   have hset:(st0++[(x,k+1)]).set k1 (x,k)=st0++[(x,k)]:=(by rw [← hk1];simp);have hkj:(st0++[(x,k)])[k1]?=some (x,k):=(by rw [← hk1];simp);have HP2:Hid (Hid (∀ w,(zc j8 234 2 (.slice (some ⟨g,0,none⟩) n2 c2) (st0++[(x,k)])).ho w->w.cell? ⟨g,k1*2+1,none⟩=some (.int .i64 (k:Nat)))):=zh (zh fun w h=>qj h jk hkj (j:=1) rfl);have HKI:=zh hki;have HSET:=zh hset;have HLN:=zh (za hk1 hn2);have i8:(n2:Int)-1=(k1:Int):=(by omega);have i7:k1<n2:=(by omega);have hkb:k<=1152921504606846976:=(by unfold yG at hq;omega);have HX:=zh hq;obtain ⟨j,hxj⟩:∃ j,j+1=x:=⟨x-1,by omega⟩
   obtain ⟨en,hen⟩:∃ a,S.list[j]?=some a:=⟨_,zg (by omega)⟩
   have HEN:=zh (xh HIN.out.1 hen);have HRU:Hid (∀ w,(qF p lv m S).ho w->Calls zb 68 #[.pointer (some ⟨p,0,none⟩),.int .i64 (x:Nat)] w fun e w'=>e=.returned (.tuple #[.agg (WN en.r).toArray,.nilIface])∧St w [] [] w'):=zh fun w h=>YK hen (x:Int) (by omega) w h
   have HXJ:=zh hxj;clear hrel hki hset hkj hl2 hk1 hn2 hq hen hxj;go_wp2_with (first|refine sL ?_|(refine sS ?_;clear H;intros;rename_i H)|((with_reducible refine yl ?_);refine AtStore.rowAk (enc:=j8) H rfl rfl rfl rfl rfl rfl (xs:=st0++[(x,k+1)]) pk jk HKI.out (j:=1) (by decide) rfl (x,k) rfl ?_;clear H HO0 HO1;intro _ H;rw [HSET.out] at H;have HO2:=HP2.out;simp only [Act.put,puA,puB,puC]))
   focus
    have hk0:((k:Int)==0)=true:=(by assumption);have hk1:k=0:=(by simpa using hk0);have hp:j9 st0 x k=st0:=(by simp [j9,hk1]);rw [← HLN.out.2] at H;replace H:=(H.pick (A:=zc j8 234 2 (.slice (some ⟨g,0,none⟩) (k1+1) c2) (st0++[(x,k)])) pk).cut jk HLN.out.1;rw [← hp] at H;have HLE:Hid ((j9 st0 x k).length=k1):=zh (by rw [hp];exact HLN.out.1);clear hk0 hk1 hp;generalize k1=nn at *
   rotate_left
   focus
    have hk0:((k:Int)==0)=false:=(by assumption);have hk1:¬ k=0:=(by simpa using hk0);have hp:j9 st0 x k=st0++[(x,k)]:=(by simp [j9,hk1]);rw [← hp] at H;have HLE:Hid ((j9 st0 x k).length=n2):=zh (by rw [hp];have:=HLN.out;simp;omega);clear hk0 hk1 hp;generalize n2=nn at *
   all_goals
    have hb5:txt1.length<=1048575∧(j9 st0 x k).length<=1048576:=by
     have h1:=HR.out;have h2:=congrArg ym h1.2.1;have h3:=KR HIN.out.1 h1.1;have h4:=tr_pos HIN.out.1 HX.out.1 HX.out.2.1;rw [zi,zi,Tr.txt_len] at h2;omega
    obtain ⟨hb6,hb7⟩:=hb5;have HEN2:=HEN.out;rcases HEN2 with ⟨b,hb9,hr,hw,ht⟩|⟨l,r,y,z,hl9,hr9,hy,hz,hr,hw,hs9,ht⟩|⟨l,t,y,hl9,hy,ht2,hr,hw,hs9,ht⟩
    ·have hlit:(WN en.r).toArray=#[.int .i64 1,.int .u8 (b:Nat),.int .i64 0,.int .i64 0,.int .i64 0]:=(by rw [hr];rfl);rw [hlit] at HRU;rw [HXJ.out] at ht;have HT:=zh ht;clear hlit hr hw ht hb9;go_wp2_with (first|refine sL ?_|(refine sS ?_;clear H;intros;rename_i H)|(go_at_call 68;with_reducible refine zm (HRU.out _ (H.known HK pk)) ?_;rintro e9 wc ⟨rfl,hb⟩;replace H:=H.grew hb.below;clear hb));rename_i br _ _;replace H:St w N [zc qN 5 1 v1 txt1,blk bt (.cells #[v1] 42),blk br (.cells #[.int .i64 1,.int .u8 (b:Nat),.int .i64 0,.int .i64 0,.int .i64 0] 131),zc j8 234 2 (.slice (some ⟨g,0,none⟩) nn c2) (j9 st0 x k)] _:=H.picks (.cons pk (.cons pk (.cons pk (.cons pk .nil))));refine zM 9 [⟨[],fun v _=>v=.pointer (some ⟨bt,0,none⟩)⟩,⟨[],fun v _=>v=.pointer (some ⟨bt,0,none⟩)⟩,⟨[1],fun v _=>v=.pointer (some ⟨bt,0,none⟩)⟩,⟨[2],fun v _=>v=v1⟩,⟨[],fun v _=>v=.pointer (some ⟨br,1,none⟩)⟩,⟨[4],fun v _=>v=.int .u8 (b:Nat)⟩,⟨[5],fun v _=>∃ bn:Nat,v=.slice (some ⟨bn,0,none⟩) 1 1⟩,⟨[3,6],fun _ _=>True⟩,⟨[0],fun v _=>v=.pointer (some ⟨bt,0,none⟩)⟩] [6,7] [[0,1,2],[0,1],[0,1],[0,1],[0],[0],[0],[1],[2]] [fun _ wx=>St w N [zc qN 5 1 v1 txt1,blk bt (.cells #[v1] 42),blk br (.cells #[.int .i64 1,.int .u8 (b:Nat),.int .i64 0,.int .i64 0,.int .i64 0] 131),zc j8 234 2 (.slice (some ⟨g,0,none⟩) nn c2) (j9 st0 x k)] wx,fun vals wx=>∃ bn:Nat,vals 6=.slice (some ⟨bn,0,none⟩) 1 1∧St w N [zc qN 5 1 v1 txt1,zc qN 5 1 (.slice (some ⟨bn,0,none⟩) 1 1) [b],blk bt (.cells #[v1] 42),blk br (.cells #[.int .i64 1,.int .u8 (b:Nat),.int .i64 0,.int .i64 0,.int .i64 0] 131),zc j8 234 2 (.slice (some ⟨g,0,none⟩) nn c2) (j9 st0 x k)] wx,fun vals wx=>∃ (ad9:Option Addr) (cp9:Nat),vals 7=.slice ad9 (txt1.length+1) cp9∧St w N [zc qN 5 1 (.slice ad9 (txt1.length+1) cp9) (txt1++[b]),blk bt (.cells #[v1] 42),blk br (.cells #[.int .i64 1,.int .u8 (b:Nat),.int .i64 0,.int .i64 0,.int .i64 0] 131),zc j8 234 2 (.slice (some ⟨g,0,none⟩) nn c2) (j9 st0 x k)] wx]
      [[],[],[(1,66)],[(2,67)],[],[(4,69)],[(5,70)],[(3,68),(6,71)],[(0,65)]] [(0,65),(1,66),(2,67),(3,68),(4,69),(5,70),(6,71),(7,72),(8,73)] (by kernel_rfl) (by kernel_rfl) H.drew ⟨⟨qo,qo,qo,trivial⟩,⟨qo,qo,trivial⟩,⟨qo,qo,trivial⟩,⟨ql,ql,trivial⟩,⟨qo,trivial⟩,⟨ql,trivial⟩,⟨?_,trivial⟩,⟨?_,trivial⟩,⟨qo,trivial⟩,trivial⟩ ?_
     ·intro vals wx hd HC;simp only [GF] at hd;have H:=HC;simp only [CA] at H;simp only [PS,hd];clear HC;refine StStep.slice1 (enc:=qN) H rfl rfl rfl rfl rfl rfl rfl rfl rfl b rfl ki ?_;intro bn wz H;exact ⟨⟨bn,rfl⟩,bn,rfl,H.picks (.cons pk (.cons pk (.cons pk (.cons pk (.cons pk .nil)))))⟩
     ·intro vals wx hd HC;simp only [GF] at hd;have H:=HC;simp only [CA] at H;obtain ⟨bn,hv,H⟩:=H;simp only [PS,hd,hv];refine StStep.append (enc:=qN) rfl rfl rfl rfl rfl (by decide) (by decide) rfl rfl H (H.get (A:=zc qN 5 1 (.slice (some ⟨bn,0,none⟩) 1 1) [b]) pk) ki Vd (by simp;omega) ?_;intro v' wz H;obtain ⟨ad9,cp9,e9,_⟩:=zE (H.get (A:=zc qN 5 1 v' (txt1++[b])) pk);simp only [zi,zw,zC,qQ] at e9;subst e9;exact ⟨trivial,ad9,cp9,rfl,H.picks (.cons pk (.cons pk (.cons pk (.cons pk .nil))))⟩
     intro vals wx hd HC;have h6:=hd.2.2.2.2.2.2.1;simp only [CA] at HC;obtain ⟨ad9,cp9,hv,H⟩:=HC;simp only [GF] at hd;simp only [PS,hd,hv];clear hd;go_wp2_with (first|refine sL ?_|(refine sS ?_;clear H;intros;rename_i H)|((with_reducible refine qJ ?_);refine AtAppend.go (enc:=qN) H rfl rfl rfl rfl rfl (by decide) (by decide) rfl (xs:=txt1) pk rfl (H.at pk) [b] rfl (by simp [zU,qN]) ki Vd (by simp;omega) ?_;clear H;intro ad9 cp9 _ H;simp only [Act.put,puA,puB,puC]));go_roundg (Yc S (j9 st0 x k));case measure=>have h1:=HR.out.2.2;rw [HT.out] at h1;simp only [Tr.cst] at h1;omega
     case rel =>
      have h1:=HR.out;rw [HT.out] at h1;exact ⟨j9 st0 x k,txt1++[b],_,rfl,⟨h1.1,by rw [zQ];exact h1.2.1⟩,H.picks (.cons pk (.cons pk (.cons pk .nil)))⟩
    ·obtain ⟨l1,hl1⟩:∃ a,l+1=a:=⟨_,rfl⟩
     obtain ⟨r1,hr1⟩:∃ a,r+1=a:=⟨_,rfl⟩
     rw [hl1,hr1] at hr ht;have hlit:(WN en.r).toArray=#[.int .i64 2,.int .u8 0,.int .i64 (l1:Nat),.int .i64 (r1:Nat),.int .i64 0]:=(by rw [hr];rfl);rw [hlit] at HRU;rw [HXJ.out] at ht;have HT:=zh ht;have HLR:Hid (1<=l1∧l1<=S.list.length∧1<=r1∧r1<=S.list.length):=zh (by have h1:=HX.out;have h2:=HXJ.out;omega);clear hlit hr hw ht hl9 hr9 hy hz hs9 hl1 hr1;go_wp2_with (first|refine sL ?_|(refine sS ?_;clear H;intros;rename_i H)|(go_at_call 68;with_reducible refine zm (HRU.out _ (H.known HK pk)) ?_;rintro e9 wc ⟨rfl,hb⟩;replace H:=H.grew hb.below;clear hb)|((with_reducible refine qV ?_);refine AtSlice.litJ H rfl rfl rfl (cs:=#[.int .i64 (r1:Nat),.int .i64 1,.int .i64 (l1:Nat),.int .i64 1]) rfl (by decide) (by decide) (by kernel_rfl) ?_;clear H;intro b8 _ H;simp only [Act.put,puA,puB,puC])|((with_reducible refine qJ ?_);refine AtAppend.go (enc:=j8) H rfl rfl rfl rfl rfl (by decide) (by decide) rfl (xs:=j9 st0 x k) pk rfl (H.at pk) [(r1,1),(l1,1)] rfl (by simp [zU,j8]) jk Jo (by simp;omega) ?_;clear H;intro ad9 cp9 _ H;simp only [Act.put,puA,puB,puC]));go_roundg (Yc S (j9 st0 x k++[(r1,1),(l1,1)]));case measure =>
      have h1:=HR.out.2.2;rw [HT.out] at h1;rw [show j9 st0 x k++[(r1,1),(l1,1)]=(j9 st0 x k++[(r1,1)])++[(l1,1)] by simp,kN,kN];simp only [Tr.cst,QK] at h1 ⊢;omega
     case rel =>
      have h1:=HR.out;have h2:=HLR.out;rw [HT.out] at h1;refine ⟨j9 st0 x k++[(r1,1),(l1,1)],txt1,v1,rfl,⟨fun q hq=>?_,?_⟩,H.picks (.cons pk (.cons pk (.cons pk .nil)))⟩
      ·rcases zl.1 hq with hq|hq
       ·exact h1.1 q hq
       ·simp at hq;unfold yG;rcases hq with rfl|rfl <;> simp only <;> omega
      ·rw [show j9 st0 x k++[(r1,1),(l1,1)]=(j9 st0 x k++[(r1,1)])++[(l1,1)] by simp,kO,kO];have h3:=h1.2.1;simpa [Tr.txt] using h3
    ·obtain ⟨l1,hl1⟩:∃ a,l+1=a:=⟨_,rfl⟩
     have htb:t<=yG:=by
      have h1:=j1 HIN.out.1 l y hy;have h2:=ja h1.2;have h3:1*t<=y.w.len*t:=y9 t (by omega);omega
     rw [hl1] at hr ht;have hlit:(WN en.r).toArray=#[.int .i64 3,.int .u8 0,.int .i64 (l1:Nat),.int .i64 0,.int .i64 (t:Nat)]:=(by rw [hr];rfl);rw [hlit] at HRU;rw [HXJ.out] at ht;have HT:=zh ht;have HLR:Hid (1<=l1∧l1<=S.list.length∧1<=t∧t<=yG):=zh (by have h1:=HX.out;have h2:=HXJ.out;omega);clear hlit hr hw ht hl9 hy hs9 hl1 htb ht2;go_wp2_with (first|refine sL ?_|(refine sS ?_;clear H;intros;rename_i H)|(go_at_call 68;with_reducible refine zm (HRU.out _ (H.known HK pk)) ?_;rintro e9 wc ⟨rfl,hb⟩;replace H:=H.grew hb.below;clear hb)|((with_reducible refine qV ?_);refine AtSlice.one H rfl rfl rfl rfl rfl rfl rfl rfl rfl ?_;clear H;intro b8 _ H;simp only [Act.put,puA,puB,puC])|((with_reducible refine qJ ?_);refine AtAppend.go (enc:=j8) H rfl rfl rfl rfl rfl (by decide) (by decide) rfl (xs:=j9 st0 x k) pk rfl (H.at pk) [(l1,t)] rfl (by simp [zU,j8]) jk Jo (by simp;omega) ?_;clear H;intro ad9 cp9 _ H;simp only [Act.put,puA,puB,puC]));go_roundg (Yc S (j9 st0 x k++[(l1,t)]));case measure =>
      have h1:=HR.out.2.2;rw [HT.out] at h1;rw [kN];simp only [Tr.cst] at h1 ⊢;omega
     case rel =>
      have h1:=HR.out;have h2:=HLR.out;rw [HT.out] at h1;refine ⟨j9 st0 x k++[(l1,t)],txt1,v1,rfl,⟨fun q hq=>?_,?_⟩,H.picks (.cons pk (.cons pk (.cons pk .nil)))⟩
      ·rcases zl.1 hq with hq|hq
       ·exact h1.1 q hq
       ·simp at hq;subst hq;exact h2
      ·rw [kO];have h3:=h1.2.1;simpa [Tr.txt] using h3
end
section
open Go.RowKit Go.Maps
attribute [local go_sem] qt
theorem ex1_c {p m bt bs id:Nat} {lv v:Value} {S:Sto} {txt:List Nat} (hS:S.Ok) (h1:1<=id) (h2:id<=S.list.length) (hl:txt.length+(S.tr id).txt.length<=1048576) (w:World) (h:((blk bt (.cells #[v] 42)).sep (zc qN 5 1 v txt)).ho w) (hs:(((blk bt (.cells #[v] 42)).sep (zc qN 5 1 v txt)).sep (qF p lv m S)).ho w) (hb:(((blk bt (.cells #[v] 42)).sep (zc qN 5 1 v txt)).sep (blk bs (.cells #[.pointer (some ⟨p,0,none⟩)] 59))).ho w) :
  Calls zb 111 #[.int .i64 (id:Nat),.int .i64 1,.pointer (some ⟨bt,0,none⟩),.pointer (some ⟨bs,0,none⟩)] w fun e w'=>∃ v':Value,e=.returned .nilIface∧St w ((blk bt (.cells #[v] 42)).sep (zc qN 5 1 v txt)).fp [blk bt (.cells #[v'] 42),zc qN 5 1 v' (txt++(S.tr id).txt)] w':=by
 have H:=(St.one h).sep;rw [qz] at hs hb;have HK:Ks w ((blk bt (.cells #[v] 42)).sep (zc qN 5 1 v txt)).fp [qF p lv m S,blk bs (.cells #[.pointer (some ⟨p,0,none⟩)] 59)]:=⟨fun A hA=>by
   simp at hA;rcases hA with rfl|rfl
   ·exact hs.2.1
   ·exact hb.2.1,fun A hA b hbA hm=>by
   simp at hA;rcases hA with rfl|rfl
   ·exact hs.2.2 b hm hbA
   ·exact hb.2.2 b hm hbA⟩
 have HSP:Hid (∀ w,((blk bt (.cells #[v] 42)).sep (zc qN 5 1 v txt)).ho w->(((blk bt (.cells #[v] 42)).sep (zc qN 5 1 v txt)).sep (qF p lv m S)).ho w->Calls zb 112 #[.pointer (some ⟨p,0,none⟩),.int .i64 (id:Nat),.pointer (some ⟨bt,0,none⟩)] w fun e w'=>∃ v':Value,e=.returned .nilIface∧St w ((blk bt (.cells #[v] 42)).sep (zc qN 5 1 v txt)).fp [blk bt (.cells #[v'] 42),zc qN 5 1 v' (txt++(S.tr id).txt)] w'):=zh fun w h hs=>spell_c hS h1 h2 hl w h hs
 generalize ((blk bt (.cells #[v] 42)).sep (zc qN 5 1 v txt)).fp=N at H HK ⊢;obtain ⟨tl,htl⟩:∃ k,txt.length=k:=⟨_,rfl⟩
 obtain ⟨ad,c,rfl,hmx⟩:=zE (H.get (A:=zc qN 5 1 v txt) pk);rw [htl] at H hl hmx HSP;have HL:Hid (txt.length=tl∧tl+(S.tr id).txt.length<=1048576):=zh ⟨htl,hl⟩;clear hS h1 h2 hl h hs hb htl;go_enter Tryz.func111,Tryz.ntmps111;go_wp2_with (first|refine sL ?_|(refine sS ?_;clear H;intros;rename_i H));with_reducible refine zm (HSP.out _ (St.ho (H.pick2 (A:=blk bt (.cells #[.slice ad tl c] 42)) (B:=zc qN 5 1 (.slice ad tl c) txt) pk pk).join _ zN) ((H.pick2 (A:=blk bt (.cells #[.slice ad tl c] 42)) (B:=zc qN 5 1 (.slice ad tl c) txt) pk pk).join.sepK HK .here pk)) ?_
 rintro e9 wc ⟨v2,rfl,hb⟩;replace H:=(H.pick2 (A:=blk bt (.cells #[.slice ad tl c] 42)) (B:=zc qN 5 1 (.slice ad tl c) txt) pk pk).join.call hb;clear hb HSP;simp only [zo,zv] at H;obtain ⟨ad2,c2,rfl,hmx2⟩:=zE (H.get (A:=zc qN 5 1 v2 (txt++(S.tr id).txt)) pk);obtain ⟨n2,hn2⟩:∃ k,(txt++(S.tr id).txt).length=k:=⟨_,rfl⟩
 rw [hn2] at H hmx2;have hn3:tl<=n2:=(by rw [← hn2,zi,HL.out.1];omega);clear hn2 hmx;go_wp2_with (first|refine sL ?_|(refine sS ?_;clear H;intros;rename_i H));all_goals
  go_loopg [23] 0 (fun _ v wr=>v=.int .i64 0∧St w N [blk bt (.cells #[.slice ad2 n2 c2] 42),zc qN 5 1 (.slice ad2 n2 c2) (txt++(S.tr id).txt)] wr);case atStart=>exact ⟨rfl,H⟩
  case round =>
   clear H;obtain ⟨rfl,H⟩:=hrel;go_wp2_with (first|refine sL ?_|(refine sS ?_;clear H;intros;rename_i H));go_ret;exact ⟨_,rfl,H⟩
def PtRel (w:World) (N:List Nat) (b9 bt id n:Nat) (v:Value) (txt res:List Nat) (k:Nat) (v11:Value) (wr:World):Prop :=
 (k=1∧v11=.slice (some ⟨b9,0,none⟩) 1 1∧St w N [blk b9 (.cells #[.int .i64 (id:Nat),.int .i64 0,.int .i64 (n:Nat),.int .i64 1] 230),blk bt (.cells #[v] 42),zc qN 5 1 v txt] wr)∨(k=0∧v11=.slice (some ⟨b9,0,none⟩) 0 1∧∃ v':Value,St w N [blk bt (.cells #[v'] 42),zc qN 5 1 v' res] wr)
theorem parts_c {p m bt bs id n:Nat} {lv v:Value} {S:Sto} {txt res:List Nat} (hS:S.Ok) (hc:(n=0∧res=txt)∨(1<=id∧id<=S.list.length∧n=(S.tr id).len∧res=txt++(S.tr id).txt)) (hnb:n<=65536) (htb:txt.length<=65536) (w:World) (h:((blk bt (.cells #[v] 42)).sep (zc qN 5 1 v txt)).ho w) (hs:(((blk bt (.cells #[v] 42)).sep (zc qN 5 1 v txt)).sep (qF p lv m S)).ho w) (hb:(((blk bt (.cells #[v] 42)).sep (zc qN 5 1 v txt)).sep (blk bs (.cells #[.pointer (some ⟨p,0,none⟩)] 59))).ho w) :
  Calls zb 110 #[.pointer (some ⟨p,0,none⟩),.int .i64 (id:Nat),.int .i64 0,.int .i64 (n:Nat),.func (.func 111) #[] #[.pointer (some ⟨bt,0,none⟩),.pointer (some ⟨bs,0,none⟩)]] w fun e w'=>∃ v':Value,e=.returned .nilIface∧St w ((blk bt (.cells #[v] 42)).sep (zc qN 5 1 v txt)).fp [blk bt (.cells #[v'] 42),zc qN 5 1 v' res] w':=by
 have H:=(St.one h).sep;have hs9:=hs;have hb9:=hb;rw [qz] at hs hb;have HK:Ks w ((blk bt (.cells #[v] 42)).sep (zc qN 5 1 v txt)).fp [qF p lv m S,blk bs (.cells #[.pointer (some ⟨p,0,none⟩)] 59)]:=⟨fun A hA=>by
   simp at hA;rcases hA with rfl|rfl
   ·exact hs.2.1
   ·exact hb.2.1,fun A hA b hbA hm=>by
   simp at hA;rcases hA with rfl|rfl
   ·exact hs.2.2 b hm hbA
   ·exact hb.2.2 b hm hbA⟩
 have HV:Hid (1<=id->id<=S.list.length->n=(S.tr id).len->res=txt++(S.tr id).txt->∀ w,((blk bt (.cells #[v] 42)).sep (zc qN 5 1 v txt)).ho w->(((blk bt (.cells #[v] 42)).sep (zc qN 5 1 v txt)).sep (qF p lv m S)).ho w->(((blk bt (.cells #[v] 42)).sep (zc qN 5 1 v txt)).sep (blk bs (.cells #[.pointer (some ⟨p,0,none⟩)] 59))).ho w->Calls zb 111 #[.int .i64 (id:Nat),.int .i64 1,.pointer (some ⟨bt,0,none⟩),.pointer (some ⟨bs,0,none⟩)] w fun e w'=>∃ v':Value,e=.returned .nilIface∧St w ((blk bt (.cells #[v] 42)).sep (zc qN 5 1 v txt)).fp [blk bt (.cells #[v'] 42),zc qN 5 1 v' res] w'):=zh fun h1 h2 h3 h4 w h hs hb=>by
  have:=ex1_c (v:=v) (txt:=txt) hS h1 h2 (by rw [Tr.txt_len];omega) w h hs hb;rwa [← h4] at this
 generalize hN:((blk bt (.cells #[v] 42)).sep (zc qN 5 1 v txt)).fp=N at H HK ⊢;have HC:=zh hc;have HS:=zh hS;clear hS h hs hb hs9 hb9 hc htb;go_enter Tryz.func110,Tryz.ntmps110;go_wp2_with (first|refine sL ?_|(refine sS ?_;clear H;intros;rename_i H)|((with_reducible refine qV ?_);refine AtSlice.one H rfl rfl rfl rfl rfl rfl rfl rfl rfl ?_;clear H;intro b9 _ H;simp only [Act.put,puA,puB,puC]));go_loopg [11] 1 (fun k v11 wr=>PtRel w N b9 bt id n v txt res k v11 wr);case atStart=>exact .inl ⟨rfl,rfl,H⟩
 case round =>
  clear H;rcases hrel with ⟨rfl,rfl,H⟩|⟨rfl,rfl,v2,H⟩
  ·rcases HC.out with ⟨h0,hr⟩|⟨h1,h2,h3,hr⟩
   ·subst h0;have e0:(((0:Nat):Int)==0)=true:=(by simp);go_wp2_with (first|refine sL ?_|(refine sS ?_;clear H;intros;rename_i H));go_roundg 0;case measure=>omega
    case rel=>exact .inr ⟨rfl,rfl,v,by rw [hr];exact H.picks (.cons pk (.cons pk .nil))⟩
   ·obtain ⟨j,hj⟩:∃ j,id=j+1:=⟨id-1,by omega⟩
    obtain ⟨en,hen⟩:∃ a,S.list[j]?=some a:=⟨_,zg (by omega)⟩
    have hln:=j1 HS.out j en hen;rw [← hj,← h3] at hln;have hn1:=ja (t:=S.tr id) (by rw [hj];exact (j1 HS.out j en hen).2);have hW:Hid (∀ w,(qF p lv m S).ho w->Calls zb 40 #[.pointer (some ⟨p,0,none⟩),.int .i64 (id:Nat)] w fun e w'=>e=.returned (.tuple #[.agg #[.int .i64 (n:Nat),.int .i64 en.w.lines,.int .i64 en.w.head,.int .i64 en.w.tail,.int .u64 en.w.val,.int .u64 en.w.scale],.nilIface])∧St w [] [] w'):=zh fun w h=>by
     have:=km (i:=id) (x:=en) (by rw [hj];exact hen) w h;rw [hln.1];exact this
    have HVV:=zh (HV.out h1 h2 h3 hr);have e0:((n:Int)==0)=false:=(by simp;omega);have HNN:=zh hN;clear h1 h2 h3 hr hj hen hln hn1 HV;go_wp2_with (first|refine sL ?_|(refine sS ?_;clear H;intros;rename_i H)|(go_at_call 40;with_reducible refine zm (hW.out _ (H.known HK pk)) ?_;rintro e9 wc ⟨rfl,hb⟩;replace H:=H.grew hb.below;clear hb));with_reducible refine zm (HVV.out _ (St.ho (H.pick2 (A:=blk bt (.cells #[v] 42)) (B:=zc qN 5 1 v txt) pk pk).join _ zN) ((H.pick2 (A:=blk bt (.cells #[v] 42)) (B:=zc qN 5 1 v txt) pk pk).join.sepK HK .here (B:=qF p lv m S) pk) ((H.pick2 (A:=blk bt (.cells #[v] 42)) (B:=zc qN 5 1 v txt) pk pk).join.sepK HK .here (B:=blk bs (.cells #[.pointer (some ⟨p,0,none⟩)] 59)) pk)) ?_
    rintro e9 wc ⟨v2,rfl,hb⟩;replace H:=(H.pick2 (A:=blk bt (.cells #[v] 42)) (B:=zc qN 5 1 v txt) pk pk).join.call hb;clear hb HVV;simp only [zo,zv] at H;go_wp2_with (first|refine sL ?_|(refine sS ?_;clear H;intros;rename_i H));go_roundg 0;case measure=>omega
    case rel=>exact .inr ⟨rfl,rfl,v2,H.picks (.cons pk (.cons pk .nil))⟩
  ·go_wp2_with (first|refine sL ?_|(refine sS ?_;clear H;intros;rename_i H));go_ret;exact ⟨v2,rfl,H⟩
section
variable {ops:Array Oper} {Q:Exit->Act->World->Prop} {rest:List Oper} {a:Act} {w w0:World} {M:List Nat} {L R:List As} {o1:Oper} {dst:Option Tmp} {ty0:TypeId} {pos:String} {aft:Array Edge} {gd:Option (Nat×Bool)}
def AtMkRoom (P:Program) (ops:Array Oper) (Q:Exit->Act->World->Prop) (o:Oper) (_:TypeId) (_ _:Operand) (rest:List Oper) (a:Act) (w:World):Prop:=wpList P ops Q (o::rest) a w
theorem isMkRoom {P:Program} {t:TypeId} {x y:Operand} (h:AtMkRoom P ops Q ⟨dst,.makeSlice t x y,ty0,pos,aft,gd⟩ t x y rest a w):wpList P ops Q (⟨dst,.makeSlice t x y,ty0,pos,aft,gd⟩::rest) a w:=h
theorem AtMkRoom.room {α:Type} (enc:α->List Value) {t e:TypeId} {x y:Operand} (H:St w0 M L w) (hw:Region.wanted o1 (yielded ops a.tmps)=true) (ho:o1.op=.makeSlice t x y) (hx:a.eval x=.int .i64 0) (n:Nat) (hy:a.eval y=.int .i64 (n:Int)) (hte:yv t=some e) {z:Value} {bytes:Nat} (hi:xx e=some (z,1,bytes)) (hz:z.cells=#[z]) (hk:∀ x,(enc x).length=1) (hn:n*bytes<=281474976710656) (h63:n<=16777216)
  (h:∀ b w',St w0 M (zc enc e 1 (.slice (some ⟨b,0,none⟩) 0 n) []::L) w'->wpList zb ops Q rest (a.put o1.dst (.slice (some ⟨b,0,none⟩) 0 n)) w'):AtMkRoom zb ops Q o1 t x y rest a w :=
 wpList_step fun _ hK=>by
  rw [if_pos hw];obtain ⟨i,h2,h3,h4,h5⟩:=x6 hi;have hb3:(bytes:Int)*(n:Int)<=281474976710656:=by
   have h9:((n*bytes:Nat):Int)<=281474976710656:=(by omega);rw [xO] at h9;rwa [Yl] at h9
  have hr:=run_makeSlice (P:=zb) (w:=w) t e i z (yi hte) h2 h3 .i64 .i64 0 n (by omega) (by omega) (by rw [h4];simp;omega) (by rw [h5];exact hb3) (by omega);rw [hz,h4] at hr;simp only [Int.toNat_natCast,Nat.mul_one,Int.toNat_zero] at hr;unfold Oper.wp execOp;simp only [ho,hx,hy,Sem.run_bind,hr,Result.andThen_ok,Sem.run_pure];refine hK _ _ (h _ _ ((H.alloc (.cells (madeCells #[z] n) e)).conv (by rw [qS,w8];rfl) fun hb=>?_));rw [xp] at hb;rw [ww];refine ⟨by simp [zU],.inr ⟨_,n,madeCells #[z] n,rfl,qy _,hb,by first|(simp [size_madeCells];done)|(simp only [zC];omega)|exact qy _,by unfold maxLen;omega,by first|(rw [size_madeCells,Nat.mul_one];done)|(rw [size_madeCells];done)|(simp [size_madeCells];done),by simp [zU]⟩⟩
end
theorem extract_c {p m id n:Nat} {lv:Value} {S:Sto} {res:List Nat} (hS:S.Ok) (hc:(id=0∧n=0∧res=[])∨(1<=id∧id<=S.list.length∧n=(S.tr id).len∧res=(S.tr id).txt)) (hnb:n<=65536) (w:World) (hs:(qF p lv m S).ho w) :
  Calls zb 78 #[.pointer (some ⟨p,0,none⟩),.int .i64 (id:Nat),.int .i64 0,.int .i64 (n:Nat)] w fun e w'=>∃ v':Value,e=.returned (.tuple #[v',.nilIface])∧St w [] [zc qN 5 1 v' res] w':=by
 have H:=St.nil w [];have HK:=Ks.one hs;obtain ⟨en,hen,hln⟩:∃ en,Zs S id=some en∧en.w.len=n:=by
  rcases hc with ⟨rfl,rfl,_⟩|⟨h1,h2,h3,_⟩
  ·exact ⟨_,rfl,rfl⟩
  ·obtain ⟨j,rfl⟩:∃ j,id=j+1:=⟨id-1,by omega⟩
   obtain ⟨en,hen⟩:∃ a,S.list[j]?=some a:=⟨_,zg (by omega)⟩
   exact ⟨en,hen,by rw [h3,(j1 hS j en hen).1]⟩
 have hW:Hid (∀ w,(qF p lv m S).ho w->Calls zb 40 #[.pointer (some ⟨p,0,none⟩),.int .i64 (id:Nat)] w fun e w'=>e=.returned (.tuple #[.agg #[.int .i64 (n:Nat),.int .i64 en.w.lines,.int .i64 en.w.head,.int .i64 en.w.tail,.int .u64 en.w.val,.int .u64 en.w.scale],.nilIface])∧St w [] [] w'):=zh fun w h=>by
  have:=km hen w h;rw [← hln];exact this
 have HR:Hid (∀ w,Calls zb 89 #[.int .i64 0,.int .i64 (n:Nat),.int .i64 (n:Nat)] w fun e w'=>e=.returned .nilIface∧w'=w):=zh fun w=>range_c 0 n n w (by omega) true (by simp)
 have HP:Hid (∀ (bt bs:Nat) (v:Value) w,((blk bt (.cells #[v] 42)).sep (zc qN 5 1 v ([]:List Nat))).ho w->(((blk bt (.cells #[v] 42)).sep (zc qN 5 1 v ([]:List Nat))).sep (qF p lv m S)).ho w->(((blk bt (.cells #[v] 42)).sep (zc qN 5 1 v ([]:List Nat))).sep (blk bs (.cells #[.pointer (some ⟨p,0,none⟩)] 59))).ho w->Calls zb 110 #[.pointer (some ⟨p,0,none⟩),.int .i64 (id:Nat),.int .i64 0,.int .i64 (n:Nat),.func (.func 111) #[] #[.pointer (some ⟨bt,0,none⟩),.pointer (some ⟨bs,0,none⟩)]] w fun e w'=>∃ v':Value,e=.returned .nilIface∧St w ((blk bt (.cells #[v] 42)).sep (zc qN 5 1 v ([]:List Nat))).fp [blk bt (.cells #[v'] 42),zc qN 5 1 v' res] w'):=zh fun bt bs v w h hs hb=>parts_c hS (by
  rcases hc with ⟨_,h2,h3⟩|⟨h1,h2,h3,h4⟩
  ·exact .inl ⟨h2,h3⟩
  ·exact .inr ⟨h1,h2,h3,by simpa using h4⟩) hnb (by simp) w h hs hb
 have hmf:∀ (fn:Fn) (first cap:Array Value) (w:World),(Instr.makeFunc fn first cap).run zb w=.ok (.func fn first cap) w:=fun _ _ _ _=>rfl
 have d1:decide ((65536:Int)<(n:Int))=false:=(by simp;omega);have d1n:decide (65536<n)=false:=(by simp;omega);clear hS hc hen hln hs;go_enter Tryz.func78,Tryz.ntmps78;go_wp2_with (first|refine sL ?_|(refine sS ?_;clear H;intros;rename_i H)|(go_at_call 40;with_reducible refine zm (hW.out _ (H.known HK pk)) ?_;rintro e9 wc ⟨rfl,hb⟩;replace H:=H.grew hb.below;clear hb)|(go_at_call 89;with_reducible refine same (HR.out _) ?_)|((with_reducible refine isMkRoom ?_);refine AtMkRoom.room qN H rfl rfl rfl n rfl rfl rfl rfl ki (by omega) (by omega) ?_;clear H;intro b5 _ H;simp only [Act.put,puA,puB,puC]));rename_i bs _ _ _ _ _ bt _ _ _ _ _ _;have HQ:=zh (HP.out bt bs (.slice (some ⟨b5,0,none⟩) 0 n));with_reducible refine zm (HQ.out _ (St.ho (H.pick2 (A:=blk _ (.cells #[.slice (some ⟨b5,0,none⟩) 0 n] 42)) (B:=zc qN 5 1 (.slice (some ⟨b5,0,none⟩) 0 n) []) pk pk).join _ zN) ((H.pick2 (A:=blk _ (.cells #[.slice (some ⟨b5,0,none⟩) 0 n] 42)) (B:=zc qN 5 1 (.slice (some ⟨b5,0,none⟩) 0 n) []) pk pk).join.sepK HK .here (B:=qF p lv m S) pk) (St.sepO (H.pick2 (A:=blk _ (.cells #[.slice (some ⟨b5,0,none⟩) 0 n] 42)) (B:=zc qN 5 1 (.slice (some ⟨b5,0,none⟩) 0 n) []) pk pk).join .here (B:=blk bs (.cells #[.pointer (some ⟨p,0,none⟩)] 59)) pk)) ?_
 rintro e9 wc ⟨v2,rfl,hb⟩;replace H:=(H.pick2 (A:=blk _ (.cells #[.slice (some ⟨b5,0,none⟩) 0 n] 42)) (B:=zc qN 5 1 (.slice (some ⟨b5,0,none⟩) 0 n) []) pk pk).join.call hb;clear hb HQ;simp only [zo,zv] at H;go_wp2_with (first|refine sL ?_|(refine sS ?_;clear H;intros;rename_i H));go_ret2;exact ⟨v2,rfl,H.picks (.cons pk .nil)⟩
end
end Go.Proofs.YtgnppnokkdghcaaGreatDoor
