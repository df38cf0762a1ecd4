/-
  Part 4 of the texts behind the statements of this seat: walks and laws Bs, Bt, Bu, Bv, Ca, Cb, Cc, Cd, Ce, Cf, Ag, Ah, Cg, Ch, Ci. Conditions: as each states.
-/
import Derived.Test.YtgnppnokkdghcaaGreatDoorBd3
set_option linter.unusedSimpArgs false
set_option linter.unusedVariables false
set_option maxRecDepth 100000
set_option maxHeartbeats 80000000
namespace Go.Proofs.YtgnppnokkdghcaaGreatDoor
section
open Go.RowKit Go.Maps
attribute [local go_sem] InGr
section
variable {ops:Array Oper} {a:Act} {w:World} {o:Oper} {Rr:Value->World->Prop}
theorem run_seg {t e:TypeId} (hte:sliceO t=some e) {z:Value} {bytes:Nat} (hi:infoO e=some (z,1,bytes)) {g n c l h:Nat} (h1:l<=h) (h2:h<=c) (w:World) :
  (Instr.sliceAt t (.slice (some ⟨g,0,none⟩) n c) (some (.int .i64 (l:Nat))) (some (.int .i64 (h:Nat))) none).run Tryz.prog w=.ok (.slice (some ⟨g,if c=l then 0 else l,none⟩) (h-l) (c-l)) w:=by
 obtain ⟨i,e2,e3,e4,e5⟩:=infoO_ok hi;have hu:=sliceO_ok hte;have hb:(Instr.sliceBound (Value.int .i64 (h:Nat)) c .sliceAcap).run Tryz.prog w=.ok h w:=by
  unfold Instr.sliceBound;simp [asIntOf,h2]
 have hb2:(Instr.sliceBound (Value.int .i64 (l:Nat)) h .sliceB).run Tryz.prog w=.ok l w:=by
  unfold Instr.sliceBound;simp [asIntOf,h1]
 by_cases hcl:c=l
 ·subst hcl;simp [Instr.sliceAt,Instr.slice,Instr.sliceBounds,run_underlying hu,sizeOf,typeInfo,e2,Sem.run_bind,Result.andThen,hb,hb2,Addr.add]
 ·simp [Instr.sliceAt,Instr.slice,Instr.sliceBounds,run_underlying hu,sizeOf,typeInfo,e2,Sem.run_bind,Result.andThen,hb,hb2,Addr.add,hcl,e4];try omega
theorem run_segL {t e:TypeId} (hte:sliceO t=some e) {z:Value} {bytes:Nat} (hi:infoO e=some (z,1,bytes)) {g n c l:Nat} (h1:l<=n) (w:World) :
  (Instr.sliceAt t (.slice (some ⟨g,0,none⟩) n c) (some (.int .i64 (l:Nat))) none none).run Tryz.prog w=.ok (.slice (some ⟨g,if c=l then 0 else l,none⟩) (n-l) (c-l)) w:=by
 obtain ⟨i,e2,e3,e4,e5⟩:=infoO_ok hi;have hu:=sliceO_ok hte;have hb2:(Instr.sliceBound (Value.int .i64 (l:Nat)) n .sliceB).run Tryz.prog w=.ok l w:=by
  unfold Instr.sliceBound;simp [asIntOf,h1]
 by_cases hcl:c=l
 ·simp [Instr.sliceAt,Instr.slice,Instr.sliceBounds,run_underlying hu,sizeOf,typeInfo,e2,Sem.run_bind,Result.andThen,hb2,Addr.add,hcl]
 ·simp [Instr.sliceAt,Instr.slice,Instr.sliceBounds,run_underlying hu,sizeOf,typeInfo,e2,Sem.run_bind,Result.andThen,hb2,Addr.add,hcl,e4];try omega
theorem StStep.seg {t e:TypeId} {x y y2:Operand} (hw:Region.wanted o (yielded ops a.tmps)=true) (ho:o.op=.slice t x (some y) (some y2) none) (hte:sliceO t=some e) {z:Value} {bytes:Nat} (hi:infoO e=some (z,1,bytes)) {g n c l h:Nat} (hx:a.eval x=.slice (some ⟨g,0,none⟩) n c) (hy:a.eval y=.int .i64 (l:Nat)) (hy2:a.eval y2=.int .i64 (h:Nat)) (h2:h<=c) {m cr:Nat} (hm:h=l+m) (hcr:c-l=cr)
  {of:Nat} (hof:of=if c=l then 0 else l) (hR:Rr (.slice (some ⟨g,of,none⟩) m cr) w):StStep Tryz.prog ops o a w Rr :=
 StStep.val hw (by unfold execOp;simp only [ho,hx,hy,hy2,Option.map_none,Option.map_some,Sem.run_bind,run_seg hte hi (show l<=h by omega) h2,Result.andThen_ok,Sem.run_pure,← hof,hcr,show h-l=m by omega]) hR
theorem StStep.segL {t e:TypeId} {x y:Operand} (hw:Region.wanted o (yielded ops a.tmps)=true) (ho:o.op=.slice t x (some y) none none) (hte:sliceO t=some e) {z:Value} {bytes:Nat} (hi:infoO e=some (z,1,bytes)) {g n c l:Nat} (hx:a.eval x=.slice (some ⟨g,0,none⟩) n c) (hy:a.eval y=.int .i64 (l:Nat)) {m cr:Nat} (hm:n=l+m) (hcr:c-l=cr)
  {of:Nat} (hof:of=if c=l then 0 else l) (hR:Rr (.slice (some ⟨g,of,none⟩) m cr) w):StStep Tryz.prog ops o a w Rr :=
 StStep.val hw (by unfold execOp;simp only [ho,hx,hy,Option.map_none,Option.map_some,Sem.run_bind,run_segL hte hi (show l<=n by omega),Result.andThen_ok,Sem.run_pure,← hof,hcr,show n-l=m by omega]) hR
end
theorem seg_new {w:World} {g c l:Nat} {C:Array Value} {e:TypeId} {cap a:Nat} {f:Nat->Value} {new old:List Nat} {of m:Nat} (h:w.heap[g]?=some (.cells C e)) (hA:Arr C cap f new old a) (ha:a<=l) (hof:of=if c=l then 0 else l) (hlc:m≠0->l<c) (hm:l+m<=old.length) :
  ∀ (i:Nat) (u:Value),(((old.drop l).take m).map f)[i]?=some u->w.cell? ⟨g,of+i,none⟩=some u:=by
 intro i u hu;rw [List.getElem?_map] at hu;cases hx:((old.drop l).take m)[i]? with
 |none=>rw [hx] at hu;simp at hu
 |some x =>
  rw [hx] at hu;simp at hu;subst hu;have hi:i<m:=by
   have:=gelt hx;rw [List.length_take] at this;omega
  have hlt:=hlc (by omega);rw [hof,if_neg (by omega)];rw [List.getElem?_take,if_pos hi,List.getElem?_drop] at hx;rw [cell_of_row w g (l+i) C e (0,0) h];exact hA.od (l+i) x (by omega) hx
theorem pairIx_none {f:Nat->Nat->Bool} {F:Tr->Tr->Bool} (hF:∀ x y,F x y=f x.key y.key):∀ (l:List Tr) (o:Nat),pairIx f o (l.map Tr.key)=[]->pairsF F l=l
 |[],_,_=>rfl
 |[x],_,_=>rfl
 |x::y::r,o,h=>by
  simp only [List.map_cons,pairIx] at h;split at h
  ·simp at h
  ·rename_i hf;rw [pairsF,if_neg (by rw [hF];exact hf),pairIx_none hF (y::r) (o+1) (by simpa using h)]
theorem pairIx_step {f:Nat->Nat->Bool} {F:Tr->Tr->Bool} (hF:∀ x y,F x y=f x.key y.key):∀ (l:List Tr) (o i:Nat) (rest:List Nat),pairIx f o (l.map Tr.key)=i::rest ->
  ∃ (A:List Tr) (x y:Tr) (r:List Tr),l=A++x::y::r∧i=o+A.length∧rest=pairIx f (i+2) (r.map Tr.key)∧pairsF F l=A ++ .pair x y::pairsF F r
 |[],_,_,_,h=>by simp [pairIx] at h
 |[x],_,_,_,h=>by simp [pairIx] at h
 |x::y::r,o,i,rest,h=>by
  simp only [List.map_cons,pairIx] at h;split at h
  ·rename_i hf;injection h with h1 h2
   subst h1;exact ⟨[],x,y,r,rfl,rfl,h2.symm,by rw [pairsF,if_pos (by rw [hF];exact hf)];rfl⟩
  ·rename_i hf;obtain ⟨A,x',y',r',e1,e2,e3,e4⟩:=pairIx_step hF (y::r) (o+1) i rest (by simpa using h);exact ⟨x::A,x',y',r',by rw [e1];rfl,by simp;omega,e3,by rw [pairsF,if_neg (by rw [hF];exact hf),e4];rfl⟩
structure PairsIn (X X':Px) (L:Nat) (ts:List Tr) (ids ix:List Nat) (j at_ kn:Nat) (C K:Array Value) (ci ck:Nat) (nids:List Nat) (new:List Tr):Prop where
 ext:X.Ext X'
 ok:PxOk X'
 hj:j<=ix.length
 hat:at_<=ids.length
 hkn:kn<=at_
 nl:nids.length=kn
 eqp:pairsF (fits L) ts=new++pairsF (fits L) (ts.drop at_)
 rem:pairIx (fun x y=>fitsN x y L) at_ ((ts.drop at_).map Tr.key)=ix.drop j
 den:DenL X'.S nids new
 i:Arr C ci fI nids ids at_
 kk:Arr K ck fU (new.map Tr.key) (ts.map Tr.key) at_
 size:X'.S.list.length+kn<=X.S.list.length+at_
structure PNext (X:Px) (L:Nat) (ts:List Tr) (ids ix:List Nat) (j at_ i m a b:Nat) (x y:Tr):Prop where
 him:i=at_+m
 hin:i+2<=ids.length
 ia:ids[i]?=some a
 ib:ids[i+1]?=some b
 da:Den X.S a x
 db:Den X.S b y
 len:x.len+y.len<=lenL ts
 rem:pairIx (fun x y=>fitsN x y L) (i+2) ((ts.drop (i+2)).map Tr.key)=ix.drop (j+1)
 eqp:pairsF (fits L) (ts.drop at_)=(ts.drop at_).take m ++ .pair x y::pairsF (fits L) (ts.drop (i+2))
theorem PairsIn.next {X X':Px} {L:Nat} {ts:List Tr} {ids ix:List Nat} {j at_ kn i:Nat} {C K:Array Value} {ci ck:Nat} {nids:List Nat} {new:List Tr} (h:PairsIn X X' L ts ids ix j at_ kn C K ci ck nids new) (hq:DenL X.S ids ts) (hj:ix[j]?=some i):∃ m a b x y,PNext X L ts ids ix j at_ i m a b x y:=by
 have e0:ix.drop j=i::ix.drop (j+1):=by
  have:=List.drop_eq_getElem_cons (l:=ix) (i:=j) (gelt hj);rw [this];congr 1
  exact (List.getElem?_eq_some_iff.1 hj).2
 obtain ⟨A,x,y,r,e1,e2,e3,e4⟩:=pairIx_step (F:=fits L) (fun x y=>rfl) _ _ _ _ (h.rem.trans e0);have hl:=hq.len;have hdl:=congrArg List.length e1;simp only [List.length_drop,List.length_append,List.length_cons] at hdl;have hx:ts[i]?=some x:=by
  have:(ts.drop at_)[A.length]?=some x:=by rw [e1,List.getElem?_append_right (Nat.le_refl _),Nat.sub_self];rfl
  rw [List.getElem?_drop] at this;rw [e2];exact this
 have hy:ts[i+1]?=some y:=by
  have:(ts.drop at_)[A.length+1]?=some y:=by rw [e1,List.getElem?_append_right (by omega),show A.length+1-A.length=1 by omega];rfl
  rw [List.getElem?_drop] at this;rw [e2,Nat.add_assoc];exact this
 have hr:r=ts.drop (i+2):=by
  have:(ts.drop at_).drop (A.length+2)=r:=by
   rw [e1,show A.length+2=A.length+1+1 by omega,← List.drop_drop,← List.drop_drop,List.drop_left];rfl
  rw [← this,List.drop_drop];congr 1;omega
 obtain ⟨a,ha⟩:∃ a,ids[i]?=some a:=⟨_,zg (by omega)⟩
 obtain ⟨b,hb⟩:∃ b,ids[i+1]?=some b:=⟨_,zg (by omega)⟩
 obtain ⟨x',hx',da⟩:=hq.get ha;obtain ⟨y',hy',db⟩:=hq.get hb;rw [hx] at hx';rw [hy] at hy';injection hx' with hx'
 injection hy' with hy'
 subst hx' hy';refine ⟨A.length,a,b,x,y,e2,by omega,ha,hb,da,db,?_,by rw [← hr];exact e3.symm,?_⟩
 ·have e5:lenL ts=lenL (ts.take at_)+lenL (ts.drop at_):=(by rw [← lenL_append,List.take_append_drop]);rw [e1,lenL_append,lenL_cons,lenL_cons] at e5;omega
 ·rw [e4,e1,List.take_left,← hr]
theorem PairsIn.start {X:Px} {L:Nat} {ts:List Tr} {ids:List Nat} {C K:Array Value} {ci ck:Nat} (hX:PxOk X) (h:SeqIn X C K ci ck ids ts):PairsIn X X L ts ids (pairIx (fun x y=>fitsN x y L) 0 (ts.map Tr.key)) 0 0 0 C K ci ck [] [] :=
 ⟨.refl _,hX,Nat.zero_le _,Nat.zero_le _,Nat.le_refl _,rfl,rfl,rfl,trivial,h.i.start,h.k.start,Nat.le_refl _⟩
theorem PairsIn.step {X X1 X2:Px} {L:Nat} {ts:List Tr} {ids ix:List Nat} {j at_ kn i m a b id ky:Nat} {C K:Array Value} {ci ck:Nat} {nids:List Nat} {new:List Tr} {x y:Tr} (h:PairsIn X X1 L ts ids ix j at_ kn C K ci ck nids new) (hq:DenL X.S ids ts) (hX:X.S.Ok) (hn:PNext X L ts ids ix j at_ i m a b x y) (hj:ix[j]?=some i) (ext:X1.Ext X2) (ok:PxOk X2) (hid:Den X2.S id (.pair x y)) (hky:(Tr.pair x y).key=ky) (hsz:X2.S.list.length<=X1.S.list.length+1) (hci:ids.length<=ci) (hck:ids.length<=ck) :
  PairsIn X X2 L ts ids ix (j+1) (i+2) (kn+m+1) (putC (putC C kn (((ids.drop at_).take m).map fI)) (kn+m) [.int .i64 id]) (putC (putC K kn ((((ts.map Tr.key).drop at_).take m).map fU)) (kn+m) [.int .u64 ky]) ci ck (nids++(ids.drop at_).take m++[id]) (new++(ts.drop at_).take m++[.pair x y]):=by
 have hl:=hq.len;have hkn:=h.hkn;have hat:=h.hat;have him:=hn.him;have hin:=hn.hin;have hml:((ids.drop at_).take m).length=m:=(by rw [List.length_take,List.length_drop];omega);have hmk:(((ts.map Tr.key).drop at_).take m).length=m:=(by rw [List.length_take,List.length_drop,List.length_map];omega);have hnew:new.length=kn:=(by rw [← h.den.len,h.nl]);have hnk:(new.map Tr.key).length=kn:=(by rw [List.length_map,hnew]);refine ⟨h.ext.trans ext,ok,gelt hj,hin,by omega,by rw [List.length_append,List.length_append,hml,h.nl];rfl,?_,hn.rem,?_,?_,?_,?_⟩
 ·rw [h.eqp,hn.eqp];simp
 ·exact ((h.den.le h.ok.ok ext.le).append (((hq.le hX (h.ext.trans ext).le).drop at_).take m)).append ⟨hid,trivial⟩
 ·have h1:=h.i.app ((ids.drop at_).take m) (a':=i) (by omega) (by rw [hml,h.nl];omega) (by rw [hml,h.nl];omega);rw [h.nl] at h1;have h2:=h1.app [id] (a':=i+2) (by omega) (by simp [hml,h.nl];omega) (by simp [hml,h.nl];omega);rw [List.length_append,hml,h.nl] at h2;exact h2
 ·have h1:=h.kk.app (((ts.map Tr.key).drop at_).take m) (a':=i) (by omega) (by rw [hmk,hnk];omega) (by rw [hmk,hnk];omega);rw [hnk] at h1;have h2:=h1.app [ky] (a':=i+2) (by omega) (by rw [List.length_append,hmk,hnk];simp;omega) (by rw [List.length_append,hmk,hnk];simp;omega);rw [List.length_append,hmk,hnk] at h2;have e7:(new++(ts.drop at_).take m++[Tr.pair x y]).map Tr.key=new.map Tr.key++((ts.map Tr.key).drop at_).take m++[ky]:=by
   simp only [List.map_append,List.map_cons,List.map_nil,hky,List.map_take,List.map_drop]
  rw [e7];exact h2
 ·have:=h.size;omega
end
section
open Go.RowKit Go.Maps
attribute [local go_sem] InGr
def PairsRel (X:Px) (L:Nat) (ts:List Tr) (ids ix:List Nat) (gi gk ci ck b3 b4 b8 n nx cp:Nat) (ad:Option Addr) (M:List Nat) (w:World) (v9 v27:Value) (wr:World):Prop :=
 ∃ (X':Px) (j at_ kn:Nat) (CI CK:Array Value) (nids:List Nat) (new:List Tr),v9=.int .i64 at_∧v27=.int .i64 j∧PairsIn X X' L ts ids ix j at_ kn CI CK ci ck nids new ∧
  St w M [pA X',blk gi (.cells (CI) 26),blk gk (.cells (CK) 74),blk b3 (.cells #[.slice (some ⟨gi,0,none⟩) n ci,.slice (some ⟨gk,0,none⟩) n ck] 122),blk b4 (.cells #[.slice none 0 0,.slice none 0 0] 122),blk b8 (.cells #[.slice (some ⟨gi,0,none⟩) kn ci,.slice (some ⟨gk,0,none⟩) kn ck] 122),rowsA encI 3 1 (.slice ad nx cp) ix] wr
structure Hid2 (p q:Prop):Prop where
 out1:p
 out2:q
theorem PairsIn.mid {X X1:Px} {L:Nat} {ts:List Tr} {ids ix:List Nat} {j at_ kn i m a b:Nat} {C K:Array Value} {ci ck:Nat} {nids:List Nat} {new:List Tr} {x y:Tr} (h:PairsIn X X1 L ts ids ix j at_ kn C K ci ck nids new) (hq:DenL X.S ids ts) (hn:PNext X L ts ids ix j at_ i m a b x y) (hci:ids.length<=ci) (hck:ids.length<=ck) :
  Arr (putC C kn (((ids.drop at_).take m).map fI)) ci fI (nids++(ids.drop at_).take m) ids i∧Arr (putC K kn ((((ts.map Tr.key).drop at_).take m).map fU)) ck fU (new.map Tr.key++((ts.map Tr.key).drop at_).take m) (ts.map Tr.key) i:=by
 have hl:=hq.len;have hkn:=h.hkn;have hat:=h.hat;have him:=hn.him;have hin:=hn.hin;have hml:((ids.drop at_).take m).length=m:=(by rw [List.length_take,List.length_drop];omega);have hmk:(((ts.map Tr.key).drop at_).take m).length=m:=(by rw [List.length_take,List.length_drop,List.length_map];omega);have hnew:new.length=kn:=(by rw [← h.den.len,h.nl]);have hnk:(new.map Tr.key).length=kn:=(by rw [List.length_map,hnew]);constructor
 ·have h1:=h.i.app ((ids.drop at_).take m) (a':=i) (by omega) (by rw [hml,h.nl];omega) (by rw [hml,h.nl];omega);rwa [h.nl] at h1
 ·have h1:=h.kk.app (((ts.map Tr.key).drop at_).take m) (a':=i) (by omega) (by rw [hmk,hnk];omega) (by rw [hmk,hnk];omega);rwa [hnk] at h1
theorem PairsIn.short {X X1:Px} {L:Nat} {ts:List Tr} {ids ix:List Nat} {j at_ kn i m a b:Nat} {C K:Array Value} {ci ck:Nat} {nids:List Nat} {new:List Tr} {x y:Tr} (h:PairsIn X X1 L ts ids ix j at_ kn C K ci ck nids new) (hq:DenL X.S ids ts) (hn:PNext X L ts ids ix j at_ i m a b x y):X1.S.list.length+(pairsF (fits L) ts).length<X.S.list.length+ids.length:=by
 have hl:=hq.len;have h1:=h.size;have hnew:new.length=kn:=(by rw [← h.den.len,h.nl]);have h2:=pairs_len (fits L) (ts.drop (i+2));have him:=hn.him;have hin:=hn.hin;rw [h.eqp,hn.eqp];simp only [List.length_append,List.length_cons,List.length_take,List.length_drop] at h2 ⊢;omega
theorem PairsIn.last {X X1:Px} {L:Nat} {ts:List Tr} {ids ix:List Nat} {j at_ kn m:Nat} {C K:Array Value} {ci ck:Nat} {nids:List Nat} {new:List Tr} (h:PairsIn X X1 L ts ids ix j at_ kn C K ci ck nids new) (hq:DenL X.S ids ts) (hX:X.S.Ok) (hj:j=ix.length) (hm:ids.length=at_+m) (hci:ids.length<=ci) (hck:ids.length<=ck) :
  SeqIn X1 (putC C kn (((ids.drop at_).take m).map fI)) (putC K kn ((((ts.map Tr.key).drop at_).take m).map fU)) ci ck (nids++(ids.drop at_).take m) (pairsF (fits L) ts)∧(pairsF (fits L) ts).length=kn+m∧X1.S.list.length+(kn+m)<=X.S.list.length+ids.length:=by
 have hl:=hq.len;have hkn:=h.hkn;have hml:((ids.drop at_).take m).length=m:=(by rw [List.length_take,List.length_drop];omega);have hmk:(((ts.map Tr.key).drop at_).take m).length=m:=(by rw [List.length_take,List.length_drop,List.length_map];omega);have hnew:new.length=kn:=(by rw [← h.den.len,h.nl]);have hnk:(new.map Tr.key).length=kn:=(by rw [List.length_map,hnew]);have hrem:=h.rem;rw [hj,List.drop_length] at hrem;have e:=h.eqp;rw [pairIx_none (F:=fits L) (fun x y=>rfl) _ _ hrem] at e;have et:(ts.drop at_).take m=ts.drop at_:=List.take_of_length_le (by rw [List.length_drop];omega);have hsz:=h.size;refine ⟨⟨?_,?_,?_⟩,?_,by omega⟩
 ·rw [e,← et];exact h.den.append (((hq.le hX h.ext.le).drop at_).take m)
 ·have h1:=h.i.app ((ids.drop at_).take m) (a':=ids.length) (by omega) (by rw [hml,h.nl];omega) (by rw [hml,h.nl];omega);rw [h.nl] at h1;exact h1.forget
 ·have h1:=h.kk.app (((ts.map Tr.key).drop at_).take m) (a':=ids.length) (by omega) (by rw [hmk,hnk];omega) (by rw [hmk,hnk];omega);rw [hnk] at h1;have e7:(pairsF (fits L) ts).map Tr.key=new.map Tr.key++((ts.map Tr.key).drop at_).take m:=by
   rw [e,List.map_append,← et,List.map_take,List.map_drop]
  rw [e7];exact h1.forget
 ·rw [e,List.length_append,hnew,List.length_drop];omega
theorem pk_lt (ts:List Tr):∀ k∈ts.map Tr.key,k<2305843009213693951:=by
 intro k hk;obtain ⟨t,_,rfl⟩:=List.mem_map.1 hk;exact t.key_lt
attribute [local go_sem] StStep stAt stUpon in
theorem pairs_p {X:Px} {gi gk ci ck L:Nat} {CI CK:Array Value} {ids:List Nat} {ts:List Tr} (hX:PxOk X) (hq:SeqIn X CI CK ci ck ids ts) (hL2:2<=L) (hL0:L%2=0) (hLt:L<1152921504606846976) (h1:1<=ids.length) (hlen:ids.length<=65536) (hml:lenL ts<=maxT) (w:World) (h:(((pA X).sep ((blk gi (.cells CI 26)).sep (blk gk (.cells CK 74)))).sep deA).ho w) :
  Calls Tryz.prog 64 #[.pointer (some ⟨X.p,0,none⟩),.agg #[.slice (some ⟨gi,0,none⟩) ids.length ci,.slice (some ⟨gk,0,none⟩) ids.length ck],.int .i64 L] w (SeqPost X gi gk ci ck ids.length (pairsF (fits L) ts) ((pA X).sep ((blk gi (.cells CI 26)).sep (blk gk (.cells CK 74)))).fp w):=by
 rw [sep_ho] at h;obtain ⟨k1,k2,hd⟩:=h;have H:=St.one k1;have HK:Ks w ((pA X).sep ((blk gi (.cells CI 26)).sep (blk gk (.cells CK 74)))).fp [deA]:=⟨by simpa using k2,by simpa using fun b hb hm=>hd b hm hb⟩
 generalize ((pA X).sep ((blk gi (.cells CI 26)).sep (blk gk (.cells CK 74)))).fp=M at *;replace H:=H.sep;replace H:=(H.pick (.there .here)).sep;have hci:=hq.i.len;have hck:=hq.k.len;have hkl:(ts.map Tr.key).length=ids.length:=(by rw [List.length_map,← hq.den.len]);rw [hkl] at hck;obtain ⟨ix,hix⟩:∃ ix,pairIx (fun x y=>fitsN x y L) 0 (ts.map Tr.key)=ix:=⟨_,rfl⟩
 have HRU:Hid (∀ w,(blk gk (.cells CK 74)).ho w->Calls Tryz.prog 99 #[.slice (some ⟨gk,0,none⟩) ids.length ck,.int .i64 L] w fun e w'=>∃ ad cp,e=.returned (.slice ad ix.length cp)∧St w [] [rowsA encI 3 1 (.slice ad ix.length cp) ix] w'):=zh fun w h=>by
  have:=pairs_c hL2 hL0 hLt (arr_row (g:=gk) (cap:=ck) (enc:=encU) (by rw [hkl];unfold maxLen;omega)) (pk_lt ts) (by rw [hkl];exact hlen) (by rw [hkl];exact h1) w (arr_pool (enc:=encU) (fun _=>rfl) h hq.k);rw [hkl,hix] at this;exact this
 have HSTART:Hid (PairsIn X X L ts ids ix 0 0 0 CI CK ci ck [] []):=zh (by rw [← hix];exact PairsIn.start hX hq);have HXL:Hid (ix.length<=ids.length):=zh (by rw [← hix,← hkl];exact pairIx_len _ _ _);have HQ:=zh hq;have HPX:=zh hX;have HML:=zh hml;obtain ⟨n,hn⟩:∃ n,ids.length=n:=⟨_,rfl⟩
 have HN:=zh hn;obtain ⟨nx,hnx⟩:∃ nx,ix.length=nx:=⟨_,rfl⟩
 have HNX:=zh hnx;rw [hn] at hlen h1 hci hck HRU HXL ⊢;rw [hnx] at HRU HXL;have hxl:=HXL.out;clear k1 k2 hd hq hX hml hn hix hkl hL2 hL0 hLt hnx;go_enter Tryz.func64,Tryz.ntmps64;go_wp2_with (first|refine sL ?_|(refine sS ?_;clear H;intros;rename_i H));refine wp_region_h H 8 [(7,122,#[.slice none 0 0,.slice none 0 0],none)] [(7,8)] (by kernel_rfl) (by kernel_rfl) ?_;apply Exists.intro;refine ⟨fun w1 hw1 HX=>?_,fun bs wr Hr=>?_⟩
 ·refine sG ?_;repeat (first|refine sQ ?_|fail|go_big_quiet_step (fail))
  apply wpQuiet_nil;first|refine ⟨fstep_allocT rfl rfl hw1 rfl rfl,?_⟩|refine ⟨fstep_slice1 rfl rfl rfl rfl rfl rfl rfl rfl rfl hw1,?_⟩
  simp only [Act.put,puA,puB,puC];repeat (first|refine sQ ?_|fail|go_big_quiet_step (fail))
  exact wpQuiet_nil rfl
 clear H;have H:=Hr;clear Hr;replace H:=sH H;refine sT ?_;go_wp2_with (first|refine sL ?_|(refine sS ?_;clear H;intros;rename_i H)|(go_at_call 99;with_reducible refine zm (HRU.out _ (H.get pk)) ?_;rintro e wc ⟨ad,cp,rfl,hb⟩;replace H:=zn (H.call0 hb);clear hb));rename_i b3 _ b4 _ _ _ _;obtain ⟨b8,hb8⟩:∃ b8,bs 7=b8:=⟨_,rfl⟩
 simp only [hb8] at H ⊢;clear hb8
 go_loopw [9,27] (fun v9 v27 wr=>PairsRel X L ts ids ix gi gk ci ck b3 b4 b8 n nx cp ad M w v9 v27 wr) (fun _ v27 _=>nx-(intOf v27).toNat)
 case atStart=>exact ⟨X,0,0,0,CI,CK,[],[],rfl,rfl,HSTART.out,H.picks (.cons pk (.cons pk (.cons pk (.cons pk (.cons pk (.cons pk (.cons pk .nil)))))))⟩
 case round =>
  clear H;obtain ⟨X1,j,at_,kn,C1,K1,nids,new,rfl,rfl,hin,H⟩:=hrel;have hjl:=hin.hj;rw [HNX.out] at hjl;have hat:=hin.hat;rw [HN.out] at hat;have hkn:=hin.hkn;have HIN:=zh hin;have HSI:=zh hin.i.size;have HSK:=zh hin.kk.size;have HTL:Hid ((ts.map Tr.key).length=n):=zh (by rw [List.length_map,← HQ.out.den.len,HN.out]);obtain ⟨oi,hoi⟩:∃ o,o=if ci=at_ then 0 else at_:=⟨_,rfl⟩
  obtain ⟨ok,hok⟩:∃ o,o=if ck=at_ then 0 else at_:=⟨_,rfl⟩
  obtain ⟨cri,hcri⟩:∃ o,ci-at_=o:=⟨_,rfl⟩
  obtain ⟨crk,hcrk⟩:∃ o,ck-at_=o:=⟨_,rfl⟩
  have HOI:=zh hoi;have HOK:=zh hok;have HCRI:=zh hcri;have HCRK:=zh hcrk;clear hin hoi hok hcri hcrk;by_cases hlt:j<nx
  ·obtain ⟨i,hij⟩:∃ i,ix[j]?=some i:=⟨_,zg (by rw [HNX.out];exact hlt)⟩
   obtain ⟨m,a,b,x,y,hnx⟩:=HIN.out.next HQ.out.den hij
   have HNXT:=zh hnx;have HIX:=zh hij;have hin2:=hnx.hin;have him:=hnx.him;rw [HN.out] at hin2;obtain ⟨gx,cgx,e9,_,_⟩:=rowsA_cases (H.get (A:=rowsA encI 3 1 (.slice ad nx cp) ix) pk) (by rw [HNX.out];omega);injection e9 with e9 e7 e8
   clear e7;subst e9;subst e8;have HIM:=zh him;have H2CI:Hid2 (i<=ci) (i<=ck):=⟨by omega,by omega⟩
   have HRM:Hid2 (kn+m<=ci) (kn+m<=ck):=⟨by omega,by omega⟩
   have hml1:((ids.drop at_).take m).length=m:=(by rw [List.length_take,List.length_drop,HN.out];omega);have hml2:(((ts.map Tr.key).drop at_).take m).length=m:=(by rw [List.length_take,List.length_drop,HTL.out];omega);have HLI:Hid ((((ids.drop at_).take m).map fI).length=m):=zh (by rw [List.length_map,hml1]);have HLK:Hid (((((ts.map Tr.key).drop at_).take m).map fU).length=m):=zh (by rw [List.length_map,hml2]);have HLTI:Hid (m≠0->at_<ci):=zh fun h=>by omega
   have HLTK:Hid (m≠0->at_<ck):=zh fun h=>by omega
   have HMI:Hid (at_+m<=ids.length):=zh (by rw [HN.out];omega);have HMK2:Hid (at_+m<=(ts.map Tr.key).length):=zh (by rw [HTL.out];omega);have hiL:i+2<=n:=hin2;have hka:kn+m+2<=n:=(by omega);clear hij hnx him hml1 hml2 hin2;go_wp2_with (first|refine sL ?_|(refine sS ?_;clear H;intros;rename_i H)|((with_reducible refine isLoad ?_);refine AtLoad.cel rfl rfl rfl rfl (rowsA_cell1 (H.get (A:=rowsA encI 3 1 (.slice (some ⟨gx,0,none⟩) nx cp) ix) pk) encI_len HIX.out rfl) ?_;simp only [Act.put,puA,puB,puC]));replace H:St w M [blk gi (.cells (C1) 26),pA X1,blk gk (.cells (K1) 74),blk b3 (.cells #[.slice (some ⟨gi,0,none⟩) n ci,.slice (some ⟨gk,0,none⟩) n ck] 122),blk b4 (.cells #[.slice none 0 0,.slice none 0 0] 122),blk b8 (.cells #[.slice (some ⟨gi,0,none⟩) kn ci,.slice (some ⟨gk,0,none⟩) kn ck] 122),rowsA encI 3 1 (.slice (some ⟨gx,0,none⟩) nx cp) ix] _:=H.picks (.cons pk (.cons pk (.cons pk (.cons pk (.cons pk (.cons pk (.cons pk .nil)))))));refine wp_region_sgx 8 [⟨[],fun v _=>v=.pointer (some ⟨b8,0,none⟩)⟩,⟨[0],fun v _=>v=.slice (some ⟨gi,0,none⟩) kn ci⟩,⟨[],fun v _=>v=.pointer (some ⟨b3,0,none⟩)⟩,⟨[2],fun v _=>v=.slice (some ⟨gi,0,none⟩) n ci⟩,⟨[],fun v _=>v=.int .i64 at_⟩,⟨[],fun v _=>v=.int .i64 i⟩,⟨[3,4,5],fun v _=>v=.slice (some ⟨gi,oi,none⟩) m cri⟩,⟨[1,6],fun v _=>v=.slice (some ⟨gi,0,none⟩) (kn+m) ci⟩] [7] [[0],[0],[0],[0],[0],[0],[0],[0]] [fun _ wx=>St w M [blk gi (.cells (C1) 26),pA X1,blk gk (.cells (K1) 74),blk b3 (.cells #[.slice (some ⟨gi,0,none⟩) n ci,.slice (some ⟨gk,0,none⟩) n ck] 122),blk b4 (.cells #[.slice none 0 0,.slice none 0 0] 122),blk b8 (.cells #[.slice (some ⟨gi,0,none⟩) kn ci,.slice (some ⟨gk,0,none⟩) kn ck] 122),rowsA encI 3 1 (.slice (some ⟨gx,0,none⟩) nx cp) ix] wx,fun vals wx=>St w M [blk gi (.cells (putC C1 kn (((ids.drop at_).take m).map fI)) 26),pA X1,blk gk (.cells (K1) 74),blk b3 (.cells #[.slice (some ⟨gi,0,none⟩) n ci,.slice (some ⟨gk,0,none⟩) n ck] 122),blk b4 (.cells #[.slice none 0 0,.slice none 0 0] 122),blk b8 (.cells #[.slice (some ⟨gi,0,none⟩) kn ci,.slice (some ⟨gk,0,none⟩) kn ck] 122),rowsA encI 3 1 (.slice (some ⟨gx,0,none⟩) nx cp) ix] wx]
    [[],[(0,31)],[],[(2,33)],[],[],[(3,34),(4,35),(5,36)],[(1,32),(6,37)]] [(0,31),(1,32),(2,33),(3,34),(4,35),(5,36),(6,37),(7,38)] (by kernel_rfl) (by kernel_rfl) H.drew ⟨⟨qo,trivial⟩,⟨ql,trivial⟩,⟨qo,trivial⟩,⟨ql,trivial⟩,⟨qo,trivial⟩,⟨qo,trivial⟩,⟨?_,trivial⟩,⟨?_,trivial⟩,trivial⟩ ?_
   ·intro vals wx hd HC;simp only [GF] at hd;have H:=HC;simp only [CA] at H;simp only [PS,hd];refine StStep.seg rfl rfl rfl rfl rfl rfl rfl H2CI.out1 (m:=m) (cr:=cri) HIM.out HCRI.out HOI.out ⟨rfl,HC⟩
   ·intro vals wx hd HC;simp only [GF] at hd;have H:=HC;simp only [CA] at H;simp only [PS,hd];clear HC;refine StStep.room rfl rfl rfl rfl rfl rfl H (((ids.drop at_).take m).map fI) HLI.out (seg_new (H.at pk) HIN.out.i (Nat.le_refl _) HOI.out HLTI.out HMI.out) (by intro u hu;obtain ⟨x,_,rfl⟩:=List.mem_map.1 hu;rfl) HRM.out1 HSI.out ?_;intro wz H;exact ⟨rfl,H⟩
   intro vals wx hd HC;simp only [CA] at HC;have H:=HC;clear HC;simp only [GF] at hd;simp only [PS,hd];clear hd;go_wp2_with (first|refine sL ?_|(refine sS ?_;clear H;intros;rename_i H));obtain ⟨Ca,hca⟩:∃ c,putC C1 kn (((ids.drop at_).take m).map fI)=c:=⟨_,rfl⟩
   rw [hca] at H;have HCAE:=zh hca;clear hca;replace H:St w M [blk gk (.cells (K1) 74),pA X1,blk gi (.cells (Ca) 26),blk b3 (.cells #[.slice (some ⟨gi,0,none⟩) n ci,.slice (some ⟨gk,0,none⟩) n ck] 122),blk b4 (.cells #[.slice none 0 0,.slice none 0 0] 122),blk b8 (.cells #[.slice (some ⟨gi,0,none⟩) (kn+m) ci,.slice (some ⟨gk,0,none⟩) kn ck] 122),rowsA encI 3 1 (.slice (some ⟨gx,0,none⟩) nx cp) ix] _:=H.picks (.cons pk (.cons pk (.cons pk (.cons pk (.cons pk (.cons pk (.cons pk .nil)))))));refine wp_region_sgx 8 [⟨[],fun v _=>v=.pointer (some ⟨b8,1,none⟩)⟩,⟨[0],fun v _=>v=.slice (some ⟨gk,0,none⟩) kn ck⟩,⟨[],fun v _=>v=.pointer (some ⟨b3,1,none⟩)⟩,⟨[2],fun v _=>v=.slice (some ⟨gk,0,none⟩) n ck⟩,⟨[],fun v _=>v=.int .i64 at_⟩,⟨[],fun v _=>v=.int .i64 i⟩,⟨[3,4,5],fun v _=>v=.slice (some ⟨gk,ok,none⟩) m crk⟩,⟨[1,6],fun v _=>v=.slice (some ⟨gk,0,none⟩) (kn+m) ck⟩] [7] [[0],[0],[0],[0],[0],[0],[0],[0]] [fun _ wx=>St w M [blk gk (.cells (K1) 74),pA X1,blk gi (.cells (Ca) 26),blk b3 (.cells #[.slice (some ⟨gi,0,none⟩) n ci,.slice (some ⟨gk,0,none⟩) n ck] 122),blk b4 (.cells #[.slice none 0 0,.slice none 0 0] 122),blk b8 (.cells #[.slice (some ⟨gi,0,none⟩) (kn+m) ci,.slice (some ⟨gk,0,none⟩) kn ck] 122),rowsA encI 3 1 (.slice (some ⟨gx,0,none⟩) nx cp) ix] wx,fun vals wx=>St w M [blk gk (.cells (putC K1 kn ((((ts.map Tr.key).drop at_).take m).map fU)) 74),pA X1,blk gi (.cells (Ca) 26),blk b3 (.cells #[.slice (some ⟨gi,0,none⟩) n ci,.slice (some ⟨gk,0,none⟩) n ck] 122),blk b4 (.cells #[.slice none 0 0,.slice none 0 0] 122),blk b8 (.cells #[.slice (some ⟨gi,0,none⟩) (kn+m) ci,.slice (some ⟨gk,0,none⟩) kn ck] 122),rowsA encI 3 1 (.slice (some ⟨gx,0,none⟩) nx cp) ix] wx]
    [[],[(0,40)],[],[(2,42)],[],[],[(3,43),(4,44),(5,45)],[(1,41),(6,46)]] [(0,40),(1,41),(2,42),(3,43),(4,44),(5,45),(6,46),(7,47)] (by kernel_rfl) (by kernel_rfl) H.drew ⟨⟨qo,trivial⟩,⟨ql,trivial⟩,⟨qo,trivial⟩,⟨ql,trivial⟩,⟨qo,trivial⟩,⟨qo,trivial⟩,⟨?_,trivial⟩,⟨?_,trivial⟩,trivial⟩ ?_
   ·intro vals wx hd HC;simp only [GF] at hd;have H:=HC;simp only [CA] at H;simp only [PS,hd];refine StStep.seg rfl rfl rfl rfl rfl rfl rfl H2CI.out2 (m:=m) (cr:=crk) HIM.out HCRK.out HOK.out ⟨rfl,HC⟩
   ·intro vals wx hd HC;simp only [GF] at hd;have H:=HC;simp only [CA] at H;simp only [PS,hd];clear HC;refine StStep.room rfl rfl rfl rfl rfl rfl H ((((ts.map Tr.key).drop at_).take m).map fU) HLK.out (seg_new (H.at pk) HIN.out.kk (Nat.le_refl _) HOK.out HLTK.out HMK2.out) (by intro u hu;obtain ⟨x,_,rfl⟩:=List.mem_map.1 hu;rfl) HRM.out2 HSK.out ?_;intro wz H;exact ⟨rfl,H⟩
   intro vals wx hd HC;simp only [CA] at HC;have H:=HC;clear HC;simp only [GF] at hd;simp only [PS,hd];clear hd;go_wp2_with (first|refine sL ?_|(refine sS ?_;clear H;intros;rename_i H));obtain ⟨Ka,hka9⟩:∃ c,putC K1 kn ((((ts.map Tr.key).drop at_).take m).map fU)=c:=⟨_,rfl⟩
   rw [hka9] at H;have HKAE:=zh hka9;clear hka9;have hmid:=HIN.out.mid HQ.out.den HNXT.out (by rw [HN.out];exact hci) (by rw [HN.out];exact hck);rw [HCAE.out,HKAE.out] at hmid;have HA2:=zh hmid.1;have HSI2:=zh hmid.1.size;have HSK2:=zh hmid.2.size;have HCA:Hid (∀ w,(blk gi (.cells (Ca) 26)).ho w->w.cell? ⟨gi,i,none⟩=some (.int .i64 a)):=zh fun w h=>arr_cell h (HA2.out.od i a (Nat.le_refl _) HNXT.out.ia)
   have HCB:Hid (∀ w,(blk gi (.cells (Ca) 26)).ho w->w.cell? ⟨gi,i+1,none⟩=some (.int .i64 b)):=zh fun w h=>arr_cell h (HA2.out.od (i+1) b (Nat.le_succ _) HNXT.out.ib)
   clear hmid;have HC0:Hid (∀ w,(pA X1).ho w->w.cell? ⟨X.p,0,none⟩=some (.pointer (some ⟨X1.s,0,none⟩))):=zh fun w h=>by have:=pA_c0 h;rwa [HIN.out.ext.p] at this
   have HPW:Hid (∀ w,(pA X1).ho w->Calls Tryz.prog 43 #[.pointer (some ⟨X1.s,0,none⟩),.int .i64 a,.int .i64 b] w (MPost X1 (.pair x y) (pA X1).fp w)):=zh fun w h=>pair_p (HNXT.out.da.le HPX.out.ok HIN.out.ext.le) (HNXT.out.db.le HPX.out.ok HIN.out.ext.le) (Nat.le_trans HNXT.out.len HML.out) HIN.out.ok w h
   replace H:St w M [pA X1,blk gi (.cells (Ca) 26),blk gk (.cells (Ka) 74),blk b3 (.cells #[.slice (some ⟨gi,0,none⟩) n ci,.slice (some ⟨gk,0,none⟩) n ck] 122),blk b4 (.cells #[.slice none 0 0,.slice none 0 0] 122),blk b8 (.cells #[.slice (some ⟨gi,0,none⟩) (kn+m) ci,.slice (some ⟨gk,0,none⟩) (kn+m) ck] 122),rowsA encI 3 1 (.slice (some ⟨gx,0,none⟩) nx cp) ix] _:=H.picks (.cons pk (.cons pk (.cons pk (.cons pk (.cons pk (.cons pk (.cons pk .nil)))))));refine wp_region_sgx 21 [⟨[],fun v _=>v=.pointer (some ⟨X.p,0,none⟩)⟩,⟨[0],fun v _=>v=.pointer (some ⟨X.p,0,none⟩)⟩,⟨[1],fun v _=>v=.pointer (some ⟨X.p,0,none⟩)⟩,⟨[2],fun v _=>v=.pointer (some ⟨X1.s,0,none⟩)⟩,⟨[],fun v _=>v=.pointer (some ⟨b3,0,none⟩)⟩,⟨[4],fun v _=>v=.slice (some ⟨gi,0,none⟩) n ci⟩,⟨[],fun v _=>v=.int .i64 i⟩,⟨[5,6],fun v _=>v=.pointer (some ⟨gi,i,none⟩)⟩,⟨[7],fun v _=>v=.int .i64 a⟩,⟨[],fun v _=>v=.pointer (some ⟨b3,0,none⟩)⟩,⟨[9],fun v _=>v=.slice (some ⟨gi,0,none⟩) n ci⟩,⟨[],fun v _=>v=.int .i64 i⟩,⟨[11],fun v _=>v=.int .i64 ((i:Int)+1)⟩,⟨[10,12],fun v _=>v=.pointer (some ⟨gi,i+1,none⟩)⟩,⟨[13],fun v _=>v=.int .i64 b⟩,⟨[3,8,14],fun v _=>∃ (id:Nat) (c:Option Nat),v=.tuple #[.int .i64 id,errV c]⟩,⟨[15],fun v ds=>ds=[v]⟩,⟨[16],fun v ds=>∃ (id:Nat) (c:Option Nat),ds=[.tuple #[.int .i64 id,errV c]]∧v=.int .i64 id⟩,⟨[16],fun v ds=>∃ (id:Nat) (c:Option Nat),ds=[.tuple #[.int .i64 id,errV c]]∧v=errV c⟩,⟨[17],fun v ds=>ds=[v]⟩,⟨[18],fun v ds=>ds=[v]⟩] [15] [[0],[0],[0],[0],[0],[0],[0],[0],[0],[0],[0],[0],[0],[0],[0],[0],[1],[1],[1],[1],[1]] [fun _ wx=>St w M [pA X1,blk gi (.cells (Ca) 26),blk gk (.cells (Ka) 74),blk b3 (.cells #[.slice (some ⟨gi,0,none⟩) n ci,.slice (some ⟨gk,0,none⟩) n ck] 122),blk b4 (.cells #[.slice none 0 0,.slice none 0 0] 122),blk b8 (.cells #[.slice (some ⟨gi,0,none⟩) (kn+m) ci,.slice (some ⟨gk,0,none⟩) (kn+m) ck] 122),rowsA encI 3 1 (.slice (some ⟨gx,0,none⟩) nx cp) ix] wx,fun vals wx=>∃ (X2:Px) (id:Nat) (c:Option Nat),vals 15=.tuple #[.int .i64 id,errV c]∧MkFact X1 X2 (.pair x y) id c∧St w M [pA X2,blk gi (.cells (Ca) 26),blk gk (.cells (Ka) 74),blk b3 (.cells #[.slice (some ⟨gi,0,none⟩) n ci,.slice (some ⟨gk,0,none⟩) n ck] 122),blk b4 (.cells #[.slice none 0 0,.slice none 0 0] 122),blk b8 (.cells #[.slice (some ⟨gi,0,none⟩) (kn+m) ci,.slice (some ⟨gk,0,none⟩) (kn+m) ck] 122),rowsA encI 3 1 (.slice (some ⟨gx,0,none⟩) nx cp) ix] wx]
    [[],[(0,50)],[(1,51)],[(2,52)],[],[(4,54)],[],[(5,55),(6,56)],[(7,57)],[],[(9,59)],[],[(11,61)],[(10,60),(12,62)],[(13,63)],[(3,53),(8,58),(14,64)],[(15,65)],[(16,49)],[(16,49)],[(17,66)],[(18,67)]] [(0,50),(1,51),(2,52),(3,53),(4,54),(5,55),(6,56),(7,57),(8,58),(9,59),(10,60),(11,61),(12,62),(13,63),(14,64),(15,65),(16,49),(17,66),(18,67),(19,12),(20,13)] (by kernel_rfl) (by kernel_rfl) H.drew ⟨⟨qo,trivial⟩,⟨qo,trivial⟩,⟨qo,trivial⟩,⟨ql,trivial⟩,⟨qo,trivial⟩,⟨ql,trivial⟩,⟨qo,trivial⟩,⟨?_,trivial⟩,⟨ql,trivial⟩,⟨qo,trivial⟩,⟨ql,trivial⟩,⟨qo,trivial⟩,⟨qo,trivial⟩,⟨?_,trivial⟩,⟨ql,trivial⟩,⟨?_,trivial⟩,⟨?_,trivial⟩,⟨?_,trivial⟩,⟨?_,trivial⟩,⟨?_,trivial⟩,⟨?_,trivial⟩,trivial⟩ ?_
   ·intro vals wx hd HC;simp only [GF] at hd;have H:=HC;simp only [CA] at H;simp only [PS,hd];go_simp;rw [if_pos (show i<n by omega)];exact ⟨rfl,HC⟩
   ·intro vals wx hd HC;simp only [GF] at hd;have H:=HC;simp only [CA] at H;simp only [PS,hd];go_simp;rw [if_pos (show (0:Int)<=(i:Int)+1∧(i:Int)+1<(n:Int) by omega)];exact ⟨rfl,HC⟩
   ·intro vals wx hd HC;simp only [GF] at hd;obtain ⟨h3,h8,h14⟩:=hd;have H:=HC;simp only [CA] at H;simp only [PS,h3,h8,h14];clear h3 h8 h14 HC;go_simp;with_reducible refine zm (HPW.out _ (H.get pk)) ?_
    rintro e wc ⟨X2,id,c,rfl,m1,m2,m3,m4,hb⟩;have H2:=(H.pick pk).call hb;exact ⟨_,rfl,⟨id,c,rfl⟩,X2,id,c,rfl,⟨m1,m2,m3,m4⟩,by simpa using H2⟩
   ·intro vals wx hd HC;simp only [GF] at hd;have h15:=hd;clear hd;have H:=HC;simp only [CA] at H;obtain ⟨X2,id,c,hv7,hmk,H⟩:=H;simp only [PS];clear h15;go_simp;first|exact HC|exact ⟨rfl,HC⟩
   ·intro vals wx hd HC;simp only [GF] at hd;have h16:=hd;clear hd;have H:=HC;simp only [CA] at H;obtain ⟨X2,id,c,hv7,hmk,H⟩:=H;simp only [PS];have e8:vals 16=.tuple #[.int .i64 id,errV c]:=(by rw [← hv7];exact X8 (show [vals 15]=[vals 16] from h16));simp only [e8];clear h16;go_simp;first|exact HC|exact ⟨⟨id,c,by simp [e8],rfl⟩,HC⟩|exact ⟨⟨id,rfl,c,rfl⟩,HC⟩|exact ⟨⟨c,⟨id,rfl⟩,rfl⟩,HC⟩|exact ⟨⟨id,c,rfl⟩,HC⟩|exact ⟨⟨id,⟨rfl,c,rfl⟩,rfl⟩,HC⟩|exact ⟨⟨⟨id,rfl⟩,c,rfl⟩,HC⟩|fail "Z9"
   ·intro vals wx hd HC;simp only [GF] at hd;have h16:=hd;clear hd;have H:=HC;simp only [CA] at H;obtain ⟨X2,id,c,hv7,hmk,H⟩:=H;simp only [PS];have e8:vals 16=.tuple #[.int .i64 id,errV c]:=(by rw [← hv7];exact X8 (show [vals 15]=[vals 16] from h16));simp only [e8];clear h16;go_simp;first|exact HC|exact ⟨⟨id,c,by simp [e8],rfl⟩,HC⟩|exact ⟨⟨id,rfl,c,rfl⟩,HC⟩|exact ⟨⟨c,⟨id,rfl⟩,rfl⟩,HC⟩|exact ⟨⟨id,c,rfl⟩,HC⟩|exact ⟨⟨id,⟨rfl,c,rfl⟩,rfl⟩,HC⟩|exact ⟨⟨⟨id,rfl⟩,c,rfl⟩,HC⟩|fail "Z9"
   ·intro vals wx hd HC;simp only [GF] at hd;have h17:=hd;clear hd;have H:=HC;simp only [CA] at H;obtain ⟨X2,id,c,hv7,hmk,H⟩:=H;simp only [PS];clear h17;go_simp;first|exact HC|exact ⟨rfl,HC⟩
   ·intro vals wx hd HC;simp only [GF] at hd;have h18:=hd;clear hd;have H:=HC;simp only [CA] at H;obtain ⟨X2,id,c,hv7,hmk,H⟩:=H;simp only [PS];clear h18;go_simp;first|exact HC|exact ⟨rfl,HC⟩
   intro vals wx hd HC;have h15:=hd.2.2.2.2.2.2.2.2.2.2.2.2.2.2.2.1;have h16:=hd.2.2.2.2.2.2.2.2.2.2.2.2.2.2.2.2.1;have h17:=hd.2.2.2.2.2.2.2.2.2.2.2.2.2.2.2.2.2.1;have h18:=hd.2.2.2.2.2.2.2.2.2.2.2.2.2.2.2.2.2.2.1;have h19:=hd.2.2.2.2.2.2.2.2.2.2.2.2.2.2.2.2.2.2.2.1;have h20:=hd.2.2.2.2.2.2.2.2.2.2.2.2.2.2.2.2.2.2.2.2.1;simp only [CA] at HC;obtain ⟨X2,id,c,hv7,hmk,H⟩:=HC;simp only [GF] at hd;simp only [PS,hd];clear hd;have e8:vals 16=.tuple #[.int .i64 id,errV c]:=(by rw [← hv7];exact X8 (show [vals 15]=[vals 16] from h16));have h9':∃ (i':Nat) (c':Option Nat),[vals 16]=[.tuple #[.int .i64 i',errV c']]∧vals 17=.int .i64 i':=h17;have h10':∃ (i':Nat) (c':Option Nat),[vals 16]=[.tuple #[.int .i64 i',errV c']]∧vals 18=errV c':=h18;have e9:vals 17=.int .i64 id:=by
    obtain ⟨i',c',e,e'⟩:=h9';rw [e8] at e;simp at e;rw [e'];simp [e.1]
   have e10:vals 18=errV c:=by
    obtain ⟨i',c',e,e'⟩:=h10';rw [e8] at e;simp at e;rw [e',e.2]
   have e11:vals 19=.int .i64 id:=(by rw [← e9];exact X8 (show [vals 17]=[vals 19] from h19));have e12:vals 20=errV c:=(by rw [← e10];exact X8 (show [vals 18]=[vals 20] from h20));simp only [hv7,e8,e9,e10,e11,e12];clear e8 e9 e10 e11 e12 h15 h16 h17 h18 h19 h20 hv7 h9' h10';have HMK:=zh hmk;obtain ⟨ky,hky⟩:∃ ky,(Tr.pair x y).key=ky:=⟨_,rfl⟩
   have HKY:=zh hky;rcases hmk.ans with ⟨rfl,hid⟩|⟨rfl,rfl,hs,hmost⟩
   ·have HID:=zh hid;have HAD:Hid (∀ w,((sqA X2 b8 gi gk ci ck (kn+m) Ca Ka).sep deA).ho w->Calls Tryz.prog 96 #[.pointer (some ⟨X.p,0,none⟩),.pointer (some ⟨b8,0,none⟩),.int .i64 id] w (AddPost X2 b8 gi gk ci ck (kn+m) Ca Ka id ky (sqA X2 b8 gi gk ci ck (kn+m) Ca Ka).fp w)):=zh fun w h=>by
     have:=add_p (k:=kn+m) HMK.out.ok HID.out HKY.out (by omega) (by omega) (by omega) HSI2.out HSK2.out w h;rwa [HMK.out.ext.p,HIN.out.ext.p] at this
    clear hmk hky hid;simp only [errV] at *;replace H:=sqA_shut (H.picks (L':=[pA X2,blk b8 (.cells #[.slice (some ⟨gi,0,none⟩) (kn+m) ci,.slice (some ⟨gk,0,none⟩) (kn+m) ck] 122),blk gi (.cells (Ca) 26),blk gk (.cells (Ka) 74),blk b3 (.cells #[.slice (some ⟨gi,0,none⟩) n ci,.slice (some ⟨gk,0,none⟩) n ck] 122),blk b4 (.cells #[.slice none 0 0,.slice none 0 0] 122),rowsA encI 3 1 (.slice (some ⟨gx,0,none⟩) nx cp) ix]) (.cons pk (.cons pk (.cons pk (.cons pk (.cons pk (.cons pk (.cons pk .nil))))))));go_wp2_with (first|refine sL ?_|(refine sS ?_;clear H;intros;rename_i H)|(go_at_call 96;with_reducible refine zm (HAD.out _ (H.sepK HK pk pk)) ?_;rintro e wc ⟨X3,y1,y2,y3,rfl,hb⟩;have HY:=zh (za y1 (za y2 y3));clear y1 y2 y3;replace H:=zn ((H.pick pk).call hb);clear hb;replace H:=sqA_open H));rw [← HCAE.out,← HKAE.out] at H;refine ⟨⟨X3,j+1,i+2,kn+m+1,_,_,_,_,by go_num,by go_num,HIN.out.step HQ.out.den HPX.out.ok HNXT.out HIX.out (HMK.out.ext.trans HY.out.1) HY.out.2.1 (by rw [HY.out.2.2];exact HID.out) HKY.out (by rw [HY.out.2.2];exact HMK.out.len) (by rw [HN.out];exact hci) (by rw [HN.out];exact hck),H.picks (.cons pk (.cons pk (.cons pk (.cons pk (.cons pk (.cons pk (.cons pk .nil)))))))⟩,by simp [intOf];omega⟩
   ·have HS:=zh hs;have HMO:=zh hmost;clear hs hmost hmk hky;simp only [errV,EV] at *;go_wp2_with (first|refine sL ?_|(refine sS ?_;clear H;intros;rename_i H));refine bodyPost_ret (res_row_tmp rfl H rfl pk rfl rfl) rfl ?_;have hsh:=HIN.out.short HQ.out.den HNXT.out;rw [HN.out] at hsh;refine ⟨X2,_,_,HIN.out.ext.trans HMK.out.ext,HMK.out.ok,H.picks (.cons pk (.cons pk (.cons pk .nil))),.inr ⟨rfl,by rw [HS.out];exact HMO.out,by rw [HS.out];exact hsh⟩⟩
  ·obtain rfl:j=nx:=by omega
   obtain ⟨m,hm⟩:∃ m,n=at_+m:=⟨n-at_,by omega⟩
   have HMR:=zh hm;have HRM:Hid2 (kn+m<=ci) (kn+m<=ck):=⟨by omega,by omega⟩
   have hml1:((ids.drop at_).take m).length=m:=(by rw [List.length_take,List.length_drop,HN.out];omega);have hml2:(((ts.map Tr.key).drop at_).take m).length=m:=(by rw [List.length_take,List.length_drop,HTL.out];omega);have HLI:Hid ((((ids.drop at_).take m).map fI).length=m):=zh (by rw [List.length_map,hml1]);have HLK:Hid (((((ts.map Tr.key).drop at_).take m).map fU).length=m):=zh (by rw [List.length_map,hml2]);have HLTI:Hid (m≠0->at_<ci):=zh fun h=>by omega
   have HLTK:Hid (m≠0->at_<ck):=zh fun h=>by omega
   have HMI:Hid (at_+m<=ids.length):=zh (by rw [HN.out];omega);have HMK2:Hid (at_+m<=(ts.map Tr.key).length):=zh (by rw [HTL.out];omega);have hmn:at_+m<=n:=(by omega);clear hm hml1 hml2;go_wp2_with (first|refine sL ?_|(refine sS ?_;clear H;intros;rename_i H));replace H:St w M [blk gi (.cells (C1) 26),pA X1,blk gk (.cells (K1) 74),blk b3 (.cells #[.slice (some ⟨gi,0,none⟩) n ci,.slice (some ⟨gk,0,none⟩) n ck] 122),blk b4 (.cells #[.slice none 0 0,.slice none 0 0] 122),blk b8 (.cells #[.slice (some ⟨gi,0,none⟩) kn ci,.slice (some ⟨gk,0,none⟩) kn ck] 122),rowsA encI 3 1 (.slice ad j cp) ix] _:=H.picks (.cons pk (.cons pk (.cons pk (.cons pk (.cons pk (.cons pk (.cons pk .nil)))))));refine wp_region_sgx 7 [⟨[],fun v _=>v=.pointer (some ⟨b8,0,none⟩)⟩,⟨[0],fun v _=>v=.slice (some ⟨gi,0,none⟩) kn ci⟩,⟨[],fun v _=>v=.pointer (some ⟨b3,0,none⟩)⟩,⟨[2],fun v _=>v=.slice (some ⟨gi,0,none⟩) n ci⟩,⟨[],fun v _=>v=.int .i64 at_⟩,⟨[3,4],fun v _=>v=.slice (some ⟨gi,oi,none⟩) m cri⟩,⟨[1,5],fun v _=>v=.slice (some ⟨gi,0,none⟩) (kn+m) ci⟩] [6] [[0],[0],[0],[0],[0],[0],[0]] [fun _ wx=>St w M [blk gi (.cells (C1) 26),pA X1,blk gk (.cells (K1) 74),blk b3 (.cells #[.slice (some ⟨gi,0,none⟩) n ci,.slice (some ⟨gk,0,none⟩) n ck] 122),blk b4 (.cells #[.slice none 0 0,.slice none 0 0] 122),blk b8 (.cells #[.slice (some ⟨gi,0,none⟩) kn ci,.slice (some ⟨gk,0,none⟩) kn ck] 122),rowsA encI 3 1 (.slice ad j cp) ix] wx,fun vals wx=>St w M [blk gi (.cells (putC C1 kn (((ids.drop at_).take m).map fI)) 26),pA X1,blk gk (.cells (K1) 74),blk b3 (.cells #[.slice (some ⟨gi,0,none⟩) n ci,.slice (some ⟨gk,0,none⟩) n ck] 122),blk b4 (.cells #[.slice none 0 0,.slice none 0 0] 122),blk b8 (.cells #[.slice (some ⟨gi,0,none⟩) kn ci,.slice (some ⟨gk,0,none⟩) kn ck] 122),rowsA encI 3 1 (.slice ad j cp) ix] wx]
    [[],[(0,82)],[],[(2,84)],[],[(3,85),(4,86)],[(1,83),(5,87)]] [(0,82),(1,83),(2,84),(3,85),(4,86),(5,87),(6,88)] (by kernel_rfl) (by kernel_rfl) H.drew ⟨⟨qo,trivial⟩,⟨ql,trivial⟩,⟨qo,trivial⟩,⟨ql,trivial⟩,⟨qo,trivial⟩,⟨?_,trivial⟩,⟨?_,trivial⟩,trivial⟩ ?_
   ·intro vals wx hd HC;simp only [GF] at hd;have H:=HC;simp only [CA] at H;simp only [PS,hd];refine StStep.segL rfl rfl rfl rfl rfl rfl (m:=m) (cr:=cri) HMR.out HCRI.out HOI.out ⟨rfl,HC⟩
   ·intro vals wx hd HC;simp only [GF] at hd;have H:=HC;simp only [CA] at H;simp only [PS,hd];clear HC;refine StStep.room rfl rfl rfl rfl rfl rfl H (((ids.drop at_).take m).map fI) HLI.out (seg_new (H.at pk) HIN.out.i (Nat.le_refl _) HOI.out HLTI.out HMI.out) (by intro u hu;obtain ⟨x,_,rfl⟩:=List.mem_map.1 hu;rfl) HRM.out1 HSI.out ?_;intro wz H;exact ⟨rfl,H⟩
   intro vals wx hd HC;simp only [CA] at HC;have H:=HC;clear HC;simp only [GF] at hd;simp only [PS,hd];clear hd;go_wp2_with (first|refine sL ?_|(refine sS ?_;clear H;intros;rename_i H));obtain ⟨Ca,hca⟩:∃ c,putC C1 kn (((ids.drop at_).take m).map fI)=c:=⟨_,rfl⟩
   rw [hca] at H;have HCAE:=zh hca;clear hca;replace H:St w M [blk gk (.cells (K1) 74),pA X1,blk gi (.cells (Ca) 26),blk b3 (.cells #[.slice (some ⟨gi,0,none⟩) n ci,.slice (some ⟨gk,0,none⟩) n ck] 122),blk b4 (.cells #[.slice none 0 0,.slice none 0 0] 122),blk b8 (.cells #[.slice (some ⟨gi,0,none⟩) (kn+m) ci,.slice (some ⟨gk,0,none⟩) kn ck] 122),rowsA encI 3 1 (.slice ad j cp) ix] _:=H.picks (.cons pk (.cons pk (.cons pk (.cons pk (.cons pk (.cons pk (.cons pk .nil)))))));refine wp_region_sgx 7 [⟨[],fun v _=>v=.pointer (some ⟨b8,1,none⟩)⟩,⟨[0],fun v _=>v=.slice (some ⟨gk,0,none⟩) kn ck⟩,⟨[],fun v _=>v=.pointer (some ⟨b3,1,none⟩)⟩,⟨[2],fun v _=>v=.slice (some ⟨gk,0,none⟩) n ck⟩,⟨[],fun v _=>v=.int .i64 at_⟩,⟨[3,4],fun v _=>v=.slice (some ⟨gk,ok,none⟩) m crk⟩,⟨[1,5],fun v _=>v=.slice (some ⟨gk,0,none⟩) (kn+m) ck⟩] [6] [[0],[0],[0],[0],[0],[0],[0]] [fun _ wx=>St w M [blk gk (.cells (K1) 74),pA X1,blk gi (.cells (Ca) 26),blk b3 (.cells #[.slice (some ⟨gi,0,none⟩) n ci,.slice (some ⟨gk,0,none⟩) n ck] 122),blk b4 (.cells #[.slice none 0 0,.slice none 0 0] 122),blk b8 (.cells #[.slice (some ⟨gi,0,none⟩) (kn+m) ci,.slice (some ⟨gk,0,none⟩) kn ck] 122),rowsA encI 3 1 (.slice ad j cp) ix] wx,fun vals wx=>St w M [blk gk (.cells (putC K1 kn ((((ts.map Tr.key).drop at_).take m).map fU)) 74),pA X1,blk gi (.cells (Ca) 26),blk b3 (.cells #[.slice (some ⟨gi,0,none⟩) n ci,.slice (some ⟨gk,0,none⟩) n ck] 122),blk b4 (.cells #[.slice none 0 0,.slice none 0 0] 122),blk b8 (.cells #[.slice (some ⟨gi,0,none⟩) (kn+m) ci,.slice (some ⟨gk,0,none⟩) kn ck] 122),rowsA encI 3 1 (.slice ad j cp) ix] wx]
    [[],[(0,90)],[],[(2,92)],[],[(3,93),(4,94)],[(1,91),(5,95)]] [(0,90),(1,91),(2,92),(3,93),(4,94),(5,95),(6,96)] (by kernel_rfl) (by kernel_rfl) H.drew ⟨⟨qo,trivial⟩,⟨ql,trivial⟩,⟨qo,trivial⟩,⟨ql,trivial⟩,⟨qo,trivial⟩,⟨?_,trivial⟩,⟨?_,trivial⟩,trivial⟩ ?_
   ·intro vals wx hd HC;simp only [GF] at hd;have H:=HC;simp only [CA] at H;simp only [PS,hd];refine StStep.segL rfl rfl rfl rfl rfl rfl (m:=m) (cr:=crk) HMR.out HCRK.out HOK.out ⟨rfl,HC⟩
   ·intro vals wx hd HC;simp only [GF] at hd;have H:=HC;simp only [CA] at H;simp only [PS,hd];clear HC;refine StStep.room rfl rfl rfl rfl rfl rfl H ((((ts.map Tr.key).drop at_).take m).map fU) HLK.out (seg_new (H.at pk) HIN.out.kk (Nat.le_refl _) HOK.out HLTK.out HMK2.out) (by intro u hu;obtain ⟨x,_,rfl⟩:=List.mem_map.1 hu;rfl) HRM.out2 HSK.out ?_;intro wz H;exact ⟨rfl,H⟩
   intro vals wx hd HC;simp only [CA] at HC;have H:=HC;clear HC;simp only [GF] at hd;simp only [PS,hd];clear hd;go_wp2_with (first|refine sL ?_|(refine sS ?_;clear H;intros;rename_i H));refine bodyPost_ret (res_row_tmp rfl H rfl pk rfl rfl) rfl ?_;rw [← HCAE.out] at H;obtain ⟨hl1,hl2,hl3⟩:=HIN.out.last HQ.out.den HPX.out.ok HNX.out.symm (HN.out.trans HMR.out) (by rw [HN.out];exact hci) (by rw [HN.out];exact hck);rw [HN.out] at hl3;exact ⟨X1,_,_,HIN.out.ext,HIN.out.ok,H.picks (.cons pk (.cons pk (.cons pk .nil))),.inl ⟨_,by rw [hl2];rfl,hl1,by rw [hl2];exact hl3⟩⟩
end
section
open Go.RowKit Go.Maps
attribute [local go_sem] InGr
section
variable {ops:Array Oper} {a:Act} {w w0:World} {M:List Nat} {L:List As} {o:Oper} {Rr:Value->World->Prop}
theorem run_mkroom {t e:TypeId} {n:Nat} {z:Value} {bytes:Nat} (hte:sliceO t=some e) (hi:infoO e=some (z,1,bytes)) (hz:z.cells=#[z]) (hn:n*bytes<=281474976710656) (h63:n<=16777216) (w:World) :
  (Instr.makeSlice t (.int .i64 0) (.int .i64 (n:Int))).run Tryz.prog w=.ok (.slice (some ⟨w.heap.size,0,none⟩) 0 n) (w.alloc (.cells (madeCells #[z] n) e)):=by
 obtain ⟨i,h2,h3,h4,h5⟩:=infoO_ok hi;have hb3:(bytes:Int)*(n:Int)<=281474976710656:=by
  have h9:((n*bytes:Nat):Int)<=281474976710656:=(by omega);rw [Nat.mul_comm] at h9;rwa [Int.natCast_mul] at h9
 have hrun:=run_makeSlice (P:=Tryz.prog) (w:=w) t e i z (sliceO_ok hte) h2 h3 .i64 .i64 0 n (by omega) (by omega) (by rw [h4];simp;omega) (by rw [h5];exact hb3) (by omega);rw [hz,h4] at hrun;simpa only [Int.toNat_natCast,Nat.mul_one,Int.toNat_zero] using hrun
def blkV:Value->Nat
 |.pointer (some ad)=>ad.block
 |.slice (some ad) _ _=>ad.block
 |_=>0
def newA (cs:Array Value) (e:TypeId) (v:Value):As:=blk (blkV v) (.cells cs e)
theorem StStep.mkroom {t e:TypeId} {x y:Operand} {n:Nat} {z:Value} {bytes:Nat} (H:St w0 M L w) (hw:Region.wanted o (yielded ops a.tmps)=true) (ho:o.op=.makeSlice t x y) (hx:a.eval x=.int .i64 0) (hy:a.eval y=.int .i64 (n:Int)) (hte:sliceO t=some e) (hi:infoO e=some (z,1,bytes)) (hz:z.cells=#[z]) (hn:n*bytes<=281474976710656) (h63:n<=16777216)
  (h:∀ b w',St w0 M (newA (madeCells #[z] n) e (.slice (some ⟨b,0,none⟩) 0 n)::L) w'->Rr (.slice (some ⟨b,0,none⟩) 0 n) w'):StStep Tryz.prog ops o a w Rr :=
 StStep.val hw (by unfold execOp;simp only [ho,hx,hy,Sem.run_bind,run_mkroom hte hi hz hn h63 w,Result.andThen_ok];rfl) (h w.heap.size (w.alloc _) (H.alloc _))
end
def encT (x:Nat):List Value:=[.int .u8 x]
theorem encT_len:∀ x,(encT x).length=1:=fun _=>rfl
theorem Arr.fresh {C:Array Value} {cap:Nat} {f:Nat->Value} {a:Nat} (h:C.size=cap):Arr C cap f [] [] a:=⟨h,by simp,by simp⟩
structure LetIn (X X':Px) (text:List Nat) (n k:Nat) (C K:Array Value) (nids:List Nat):Prop where
 ext:X.Ext X'
 ok:PxOk X'
 hk:k<=n
 nl:nids.length=k
 den:DenL X'.S nids ((text.take k).map Tr.leaf)
 i:Arr C n fI nids [] n
 kk:Arr K n fU (((text.take k).map Tr.leaf).map Tr.key) [] n
 size:X'.S.list.length<=X.S.list.length+k
theorem LetIn.step {X X1 X2:Px} {text:List Nat} {n k id b ky:Nat} {C K:Array Value} {nids:List Nat} (h:LetIn X X1 text n k C K nids) (hn:text.length=n) (hb:text[k]?=some b) (ext:X1.Ext X2) (ok:PxOk X2) (hid:Den X2.S id (.leaf b)) (hky:(Tr.leaf b).key=ky) (hsz:X2.S.list.length<=X1.S.list.length+1) :
  LetIn X X2 text n (k+1) (putC C k [.int .i64 id]) (putC K k [.int .u64 ky]) (nids++[id]):=by
 have hk:=gelt hb;have e:text.take (k+1)=text.take k++[b]:=(by rw [List.take_add_one,hb];rfl);have hkl:(((text.take k).map Tr.leaf).map Tr.key).length=k:=(by rw [List.length_map,List.length_map,List.length_take];omega);refine ⟨h.ext.trans ext,ok,by omega,by simp [h.nl],?_,?_,?_,by have:=h.size;omega⟩
 ·rw [e,List.map_append];exact (h.den.le h.ok.ok ext.le).append ⟨hid,trivial⟩
 ·have:=h.i.app [id] (a':=n) (Nat.le_refl _) (by rw [h.nl];simp;omega) (by rw [h.nl];simp;omega);rw [h.nl] at this;exact this
 ·have:=h.kk.app [ky] (a':=n) (Nat.le_refl _) (by rw [hkl];simp;omega) (by rw [hkl];simp;omega);rw [hkl] at this;rw [e,List.map_append,List.map_append];simp only [List.map_cons,List.map_nil,hky];exact this
abbrev LetPost (X:Px) (ts:List Tr) (n:Nat) (M:List Nat) (w:World) (e:Ending) (w':World):Prop :=
 ∃ X':Px,X.Ext X'∧PxOk X'∧((∃ (gi gk:Nat) (CI CK:Array Value) (ids:List Nat),e=.returned (.tuple #[.agg #[.slice (some ⟨gi,0,none⟩) n n,.slice (some ⟨gk,0,none⟩) n n],.nilIface])∧SeqIn X' CI CK n n ids ts∧X'.S.list.length<=X.S.list.length+n∧St w M [pA X',blk gi (.cells CI 26),blk gk (.cells CK 74)] w') ∨
  (e=.returned (.tuple #[.agg #[.slice none 0 0,.slice none 0 0],EV 3])∧X'.S.most<=X'.S.list.length∧X'.S.list.length<X.S.list.length+n∧St w M [pA X'] w'))
def LetRel (X:Px) (text:List Nat) (n gi gk b4 b6:Nat) (M:List Nat) (w:World) (v21:Value) (wr:World):Prop :=
 ∃ (X':Px) (k:Nat) (C K:Array Value) (nids:List Nat),v21=.int .i64 k∧LetIn X X' text n k C K nids∧St w M [pA X',blk b6 (.cells #[.slice (some ⟨gi,0,none⟩) k n,.slice (some ⟨gk,0,none⟩) k n] 122),blk gi (.cells C 26),blk gk (.cells K 74),blk b4 (.cells #[.slice none 0 0,.slice none 0 0] 122)] wr
attribute [local go_sem] StStep stAt stUpon in
theorem letters_p {X:Px} {P:PoolT} {text:List Nat} {v:Value} (hX:PxOk X) (hr:RowIn P encT 1 v text) (hb:∀ x∈text,x<256) (h1:1<=text.length) (hlen:text.length<=65536) (w:World) (hd:((pA X).sep deA).ho w) (hp:((pA X).sep (poolA P)).ho w) :
  Calls Tryz.prog 62 #[.pointer (some ⟨X.p,0,none⟩),v] w (LetPost X (text.map Tr.leaf) text.length (pA X).fp w):=by
 obtain ⟨g,of,c,rfl,_⟩:=hr.has (by omega);rw [sep_ho] at hd hp;have H:=St.one hd.1;have HK:Ks w (pA X).fp [deA,poolA P]:=⟨fun A hA=>by
   simp at hA;rcases hA with rfl|rfl
   ·exact hd.2.1
   ·exact hp.2.1,fun A hA b hbA hm=>by
   simp at hA;rcases hA with rfl|rfl
   ·exact hd.2.2 b hm hbA
   ·exact hp.2.2 b hm hbA⟩
 generalize (pA X).fp=M at *;have HR:=zh hr;have HB:=zh hb;have HPX:=zh hX;obtain ⟨n,hn⟩:∃ n,text.length=n:=⟨_,rfl⟩
 have HN:=zh hn;rw [hn] at hlen h1 HR ⊢;clear hd hp hr hb hX hn;go_enter Tryz.func62,Tryz.ntmps62;go_wp2_with (first|refine sL ?_|(refine sS ?_;clear H;intros;rename_i H));rename_i b4 _ _ _;refine wp_region_rgx H [blk b4 (.cells #[.slice none 0 0,.slice none 0 0] 122),pA X] 8 [⟨[],[],[],fun v _=>v=.slice (some ⟨g,of,none⟩) n c,fun _ _=>[]⟩,⟨[],[],[0],fun v _=>v=.int .i64 n,fun _ _=>[]⟩,⟨[],[],[1],fun v _=>∃ b,v=.slice (some ⟨b,0,none⟩) 0 n,fun v _=>[newA (madeCells #[.int .i64 0] n) 26 v]⟩,⟨[],[],[],fun v _=>v=.slice (some ⟨g,of,none⟩) n c,fun _ _=>[]⟩,⟨[],[],[3],fun v _=>v=.int .i64 n,fun _ _=>[]⟩,⟨[],[],[4],fun v _=>∃ b,v=.slice (some ⟨b,0,none⟩) 0 n,fun v _=>[newA (madeCells #[.int .u64 0] n) 74 v]⟩,⟨[],[],[2,5],fun v l=>∃ p q,l=[.slice (some ⟨p,0,none⟩) 0 n,.slice (some ⟨q,0,none⟩) 0 n]∧v=.agg #[.slice (some ⟨p,0,none⟩) 0 n,.slice (some ⟨q,0,none⟩) 0 n],fun _ _=>[]⟩,⟨[],[],[],fun v _=>∃ b,v=.pointer (some ⟨b,0,none⟩),fun v _=>[newA #[.slice none 0 0,.slice none 0 0] 122 v]⟩] (by kernel_rfl)
  [[],[(0,12)],[(1,13)],[],[(3,15)],[(4,16)],[(2,14),(5,17)],[]] [(0,12),(1,13),(2,14),(3,15),(4,16),(5,17),(6,18),(7,6)] [0,1,2,3,4,5,6,7] (by kernel_rfl) (by kernel_rfl) (by kernel_rfl) ⟨?_,?_,?_,?_,?_,?_,?_,?_,trivial⟩ ?_
 ·intro vals wx X hd H;clear hd;replace H:=sP H;simp only [putS,List.foldl_nil];go_simp;first|exact H|exact ⟨rfl,H⟩
 ·intro vals wx X hd H;have h0:vals 0=.slice (some ⟨g,of,none⟩) n c:=hd.1;clear hd;replace H:=sP H;simp only [putS,List.foldl_nil,List.foldl_cons,Act.put,List.setIfInBounds_toArray,List.set_cons_zero,List.set_cons_succ,h0];clear h0;go_simp;first|exact H|exact ⟨rfl,H⟩
 ·intro vals wx X hd H;have h1:vals 1=.int .i64 n:=hd.1;clear hd;replace H:=sP H;simp only [putS,List.foldl_nil,List.foldl_cons,Act.put,List.setIfInBounds_toArray,List.set_cons_zero,List.set_cons_succ,h1];exact StStep.mkroom (bytes:=8) H rfl rfl rfl rfl rfl rfl rfl (by omega) (by omega) fun b w' H=>⟨⟨b,rfl⟩,H⟩
 ·intro vals wx X hd H;clear hd;replace H:=sP H;simp only [putS,List.foldl_nil];go_simp;first|exact H|exact ⟨rfl,H⟩
 ·intro vals wx X hd H;have h3:vals 3=.slice (some ⟨g,of,none⟩) n c:=hd.1;clear hd;replace H:=sP H;simp only [putS,List.foldl_nil,List.foldl_cons,Act.put,List.setIfInBounds_toArray,List.set_cons_zero,List.set_cons_succ,h3];clear h3;go_simp;first|exact H|exact ⟨rfl,H⟩
 ·intro vals wx X hd H;have h4:vals 4=.int .i64 n:=hd.1;clear hd;replace H:=sP H;simp only [putS,List.foldl_nil,List.foldl_cons,Act.put,List.setIfInBounds_toArray,List.set_cons_zero,List.set_cons_succ,h4];exact StStep.mkroom (bytes:=8) H rfl rfl rfl rfl rfl rfl rfl (by omega) (by omega) fun b w' H=>⟨⟨b,rfl⟩,H⟩
 ·intro vals wx X hd H;have h2:=hd.1;have h5:=hd.2.1;clear hd;replace H:=sP H;simp only [putS,List.foldl_nil,List.foldl_cons,Act.put,List.setIfInBounds_toArray,List.set_cons_zero,List.set_cons_succ];obtain ⟨p,e2⟩:∃ b,vals 2=.slice (some ⟨b,0,none⟩) 0 n:=h2;obtain ⟨q,e5⟩:∃ b,vals 5=.slice (some ⟨b,0,none⟩) 0 n:=h5;have e9:[2,5].map vals=[.slice (some ⟨p,0,none⟩) 0 n,.slice (some ⟨q,0,none⟩) 0 n]:=(by simp only [List.map_cons,List.map_nil,e2,e5]);simp only [e9];rw [e2,e5];clear e2 e5 e9;go_simp;first|exact H|exact ⟨⟨p,q,rfl,rfl⟩,H⟩
 ·intro vals wx X hd H;clear hd;replace H:=sP H;simp only [putS,List.foldl_nil];exact StStep.allocT H rfl rfl rfl rfl fun b w' H=>⟨⟨b,rfl⟩,H⟩
 intro vals wx hd H;have h0:vals 0=.slice (some ⟨g,of,none⟩) n c:=hd.1;have h1:vals 1=.int .i64 n:=hd.2.1;have h2:=hd.2.2.1;have h3:vals 3=.slice (some ⟨g,of,none⟩) n c:=hd.2.2.2.1;have h4:vals 4=.int .i64 n:=hd.2.2.2.2.1;have h5:=hd.2.2.2.2.2.1;have h6:=hd.2.2.2.2.2.2.1;have h7:=hd.2.2.2.2.2.2.2.1;clear hd;replace H:=sP H;simp only [putS,List.foldl_nil,List.foldl_cons,Act.put,List.setIfInBounds_toArray,List.set_cons_zero,List.set_cons_succ,List.drop_succ_cons,List.drop_zero,h0,h1,h3,h4];clear h0 h1 h3 h4;obtain ⟨gi,gk,e9,e6⟩:∃ p q,[2,5].map vals=[.slice (some ⟨p,0,none⟩) 0 n,.slice (some ⟨q,0,none⟩) 0 n]∧vals 6=.agg #[.slice (some ⟨p,0,none⟩) 0 n,.slice (some ⟨q,0,none⟩) 0 n]:=h6;simp only [List.map_cons,List.map_nil,List.cons.injEq,and_true] at e9;obtain ⟨b6,e7⟩:∃ b,vals 7=.pointer (some ⟨b,0,none⟩):=h7;simp only [e9.1,e9.2,e6,e7,newA,blkV] at H ⊢;clear e9 e6 e7 h2 h5;go_wp2_with (first|refine sL ?_|(refine sS ?_;clear H;intros;rename_i H))
 go_loopw [21] (fun v21 wr=>LetRel X text n gi gk b4 b6 M w v21 wr) (fun v21 _=>n-(intOf v21).toNat)
 case atStart=>exact ⟨X,0,_,_,[],rfl,⟨.refl _,HPX.out,Nat.zero_le _,rfl,trivial,Arr.fresh (by have:=congrArg List.length (toList_madeCells_one (.int .i64 0) n);simpa using this),Arr.fresh (by have:=congrArg List.length (toList_madeCells_one (.int .u64 0) n);simpa using this),Nat.le_refl _⟩,H.picks (.cons pk (.cons pk (.cons pk (.cons pk (.cons pk .nil)))))⟩
 case round =>
  clear H;obtain ⟨X1,k,C1,K1,nids,rfl,hin,H⟩:=hrel;have hkl:=hin.hk;have HIN:=zh hin;have HSI:=zh hin.i.size;have HSK:=zh hin.kk.size;clear hin;by_cases hlt:k<n
  ·obtain ⟨b,hb⟩:∃ b,text[k]?=some b:=⟨_,zg (by rw [HN.out];exact hlt)⟩
   have HBX:=zh hb;have HC:Hid (∀ w,(poolA P).ho w->w.cell? ⟨g,of+k,none⟩=some (.int .u8 b)):=zh fun w h=>HR.out.cell h encT_len hb rfl
   have hb2:=HB.out b (List.mem_of_getElem? hb);have HC0:Hid (∀ w,(pA X1).ho w->w.cell? ⟨X.p,0,none⟩=some (.pointer (some ⟨X1.s,0,none⟩))):=zh fun w h=>by have:=pA_c0 h;rwa [HIN.out.ext.p] at this
   have HLT:Hid (∀ w,(pA X1).ho w->Calls Tryz.prog 42 #[.pointer (some ⟨X1.s,0,none⟩),.int .u8 b] w (MPost X1 (.leaf b) (pA X1).fp w)):=zh fun w h=>letter_p b hb2 HIN.out.ok w h
   clear hb;go_wp2_with (first|refine sL ?_|(refine sS ?_;clear H;intros;rename_i H)|((with_reducible refine isLoad ?_);refine AtLoad.cel rfl rfl rfl rfl (HC.out _ (H.known HK pk)) ?_;simp only [Act.put,puA,puB,puC]));with_reducible refine zm (HLT.out _ (H.get pk)) ?_
   rintro e wc ⟨X2,id,c',rfl,m1,m2,m3,m4,hcl⟩;replace H:=(H.pick pk).call hcl;clear hcl;simp only [List.cons_append,List.nil_append] at H;have HE:=zh m1;have HO2:=zh m2;have HM3:=zh m3;rcases m4 with ⟨rfl,hid⟩|⟨rfl,rfl,hs,hmost⟩
   ·obtain ⟨ky,hky⟩:∃ ky,(Tr.leaf b).key=ky:=⟨_,rfl⟩
    have HKY:=zh hky;have HID:=zh hid;have HAD:Hid (∀ w,((sqA X2 b6 gi gk n n k C1 K1).sep deA).ho w->Calls Tryz.prog 96 #[.pointer (some ⟨X.p,0,none⟩),.pointer (some ⟨b6,0,none⟩),.int .i64 id] w (AddPost X2 b6 gi gk n n k C1 K1 id ky (sqA X2 b6 gi gk n n k C1 K1).fp w)):=zh fun w h=>by
     have:=add_p (k:=k) HO2.out HID.out HKY.out (by omega) (by omega) (by omega) HSI.out HSK.out w h;rwa [HE.out.p,HIN.out.ext.p] at this
    clear m1 m2 m3 hid hky;simp only [errV] at *;replace H:=sqA_shut (H.picks (L':=[pA X2,blk b6 (.cells #[.slice (some ⟨gi,0,none⟩) k n,.slice (some ⟨gk,0,none⟩) k n] 122),blk gi (.cells C1 26),blk gk (.cells K1 74),blk b4 (.cells #[.slice none 0 0,.slice none 0 0] 122)]) (.cons pk (.cons pk (.cons pk (.cons pk (.cons pk .nil))))));go_wp2_with (first|refine sL ?_|(refine sS ?_;clear H;intros;rename_i H)|(go_at_call 96;with_reducible refine zm (HAD.out _ (H.sepK HK pk pk)) ?_;rintro e wc ⟨X3,y1,y2,y3,rfl,hb⟩;have HY:=zh (za y1 (za y2 y3));clear y1 y2 y3;replace H:=zn ((H.pick pk).call hb);clear hb;replace H:=sqA_open H));exact ⟨⟨X3,k+1,_,_,_,by go_num,HIN.out.step HN.out HBX.out (HE.out.trans HY.out.1) HY.out.2.1 (by rw [HY.out.2.2];exact HID.out) HKY.out (by rw [HY.out.2.2];exact HM3.out),H.picks (.cons pk (.cons pk (.cons pk (.cons pk (.cons pk .nil)))))⟩,by simp [intOf];omega⟩
   ·have HS:=zh hs;have HMO:=zh hmost;clear hs hmost m1 m2 m3;simp only [errV,EV] at *;go_wp2_with (first|refine sL ?_|(refine sS ?_;clear H;intros;rename_i H));refine bodyPost_ret (res_row_tmp rfl H rfl pk rfl rfl) rfl ?_;exact ⟨X2,HIN.out.ext.trans HE.out,HO2.out,.inr ⟨rfl,by rw [HS.out];exact HMO.out,by rw [HS.out];have:=HIN.out.size;omega,H.picks (.cons pk .nil)⟩⟩
  ·obtain rfl:k=n:=by omega
   go_wp2_with (first|refine sL ?_|(refine sS ?_;clear H;intros;rename_i H));refine bodyPost_ret (res_row_tmp rfl H rfl pk rfl rfl) rfl ?_;have hin:=HIN.out;have htk:text.take k=text:=List.take_of_length_le (by rw [HN.out];exact Nat.le_refl _);have hden:=hin.den;have hkk:=hin.kk;rw [htk] at hden hkk;exact ⟨X1,hin.ext,hin.ok,.inl ⟨gi,gk,C1,K1,nids,rfl,⟨hden,hin.i.forget,hkk.forget⟩,hin.size,H.picks (.cons pk (.cons pk (.cons pk .nil)))⟩⟩
end
section
open Go.RowKit Go.Maps
attribute [local go_sem] InGr
theorem lenL_runs (l:List Tr):lenL (runs l)=lenL l:=by
 have h:=groups_flat l;have h2:∀ g:List (Tr×Nat),lenL (g.map powT)=lenL (g.flatMap fun p=>List.replicate p.2 p.1):=by
  intro g;induction g with
  |nil=>rfl
  |cons p g ih =>
   rw [List.map_cons,lenL_cons,List.flatMap_cons,lenL_append,ih,lenL_rep];congr 1
   unfold powT;split
   ·rename_i h1;rw [h1,Nat.mul_one]
   ·rfl
 unfold runs;rw [h2,h]
theorem lenL_pairs (f:Tr->Tr->Bool):∀ l:List Tr,lenL (pairsF f l)=lenL l
 |[]=>rfl
 |[x]=>rfl
 |x::y::r=>by
  rw [pairsF];split
  ·rw [lenL_cons,lenL_pairs f r,lenL_cons,lenL_cons];show x.len+y.len+_=_
   omega
  ·rw [lenL_cons,lenL_pairs f (y::r),lenL_cons,lenL_cons,lenL_cons]
theorem lenL_step (m:Nat) (l:List Tr):lenL (stepP m l)=lenL l:=by
 unfold stepP;split
 ·exact lenL_runs l
 ·exact lenL_pairs _ l
theorem lenL_seq (s:List Tr):∀ m,lenL (seqP s m)=lenL s
 |0=>rfl
 |m+1=>by rw [seqP,lenL_step,lenL_seq s m]
theorem lenL_leaf (l:List Nat):lenL (l.map Tr.leaf)=l.length:=by
 induction l with
 |nil=>rfl
 |cons x l ih=>rw [List.map_cons,lenL_cons,ih,List.length_cons];show 1+_=_;omega
theorem Canon.pow (T:Tr) (h:Canon T):T.Pow2:=by
 have:=h.pow2 T.lv T;rw [lay_low (Nat.le_refl _)] at this;exact this (by simp)
theorem Canon.one {T:Tr} (h:Canon T) {m:Nat} (hl:(T.lay m).length<=1):T.lay m=[T]:=by
 by_cases hm:m<T.lv
 ·have:=lay_two h.pow hm;omega
 ·exact lay_low (by omega)
theorem Canon.two {T:Tr} (h:Canon T) (hu:T.Upto 25339) {m:Nat} (hl:1<(T.lay m).length):m<25339:=by
 have h1:=hu.lv;by_cases hm:m<T.lv
 ·omega
 ·rw [lay_low (by omega)] at hl;simp at hl
abbrev OfPost (X:Px) (T:Tr) (n:Nat) (M:List Nat) (w:World) (e:Ending) (w':World):Prop :=
 ∃ X':Px,X.Ext X'∧PxOk X'∧X'.S.list.length<=X.S.list.length+2*n∧((∃ id,e=.returned (.tuple #[.int .i64 (id:Nat),.nilIface])∧Den X'.S id T) ∨
  (e=.returned (.tuple #[.int .i64 0,EV 3])∧X'.S.most<=X'.S.list.length))∧St w M [pA X'] w'
structure OfIn (X X':Px) (T:Tr) (n l q:Nat) (C K:Array Value) (ids:List Nat):Prop where
 ext:X.Ext X'
 ok:PxOk X'
 inn:SeqIn X' C K n n ids (T.lay l)
 len:ids.length=q
 pos:1<=q
 size:X'.S.list.length+q<=X.S.list.length+2*n
def OfRel (X:Px) (T:Tr) (n gi gk b6:Nat) (M:List Nat) (w:World) (v8:Value) (wr:World):Prop :=
 ∃ (X':Px) (l q:Nat) (C K:Array Value) (ids:List Nat),v8=.int .i64 (l+1:Nat)∧OfIn X X' T n l q C K ids∧l<=25339∧St w M [pA X',blk b6 (.cells #[.slice (some ⟨gi,0,none⟩) q n,.slice (some ⟨gk,0,none⟩) q n] 122),blk gi (.cells C 26),blk gk (.cells K 74)] wr
theorem of_p {X:Px} {P:PoolT} {text:List Nat} {v:Value} {T:Tr} (hX:PxOk X) (hr:RowIn P encT 1 v text) (hb:∀ x∈text,x<256) (h1:1<=text.length) (hlen:text.length<=65536) (hT:Canon T) (h0:T.lay 0=text.map Tr.leaf) (hU:T.Upto 25339) (w:World) (hd:((pA X).sep deA).ho w) (hp:((pA X).sep (poolA P)).ho w) :
  Calls Tryz.prog 22 #[.pointer (some ⟨X.p,0,none⟩),v] w (OfPost X T text.length (pA X).fp w):=by
 obtain ⟨g,of,c,rfl,_⟩:=hr.has (by omega);have HLE:Hid (∀ w,((pA X).sep deA).ho w->((pA X).sep (poolA P)).ho w->Calls Tryz.prog 62 #[.pointer (some ⟨X.p,0,none⟩),.slice (some ⟨g,of,none⟩) text.length c] w (LetPost X (T.lay 0) text.length (pA X).fp w)):=zh fun w h1' h2'=>by rw [h0];exact letters_p hX hr hb h1 hlen w h1' h2'
 have HC0:Hid (∀ w,(pA X).ho w->w.cell? ⟨X.p,0,none⟩=some (.pointer (some ⟨X.s,0,none⟩))):=zh fun w h=>pA_c0 h
 rw [sep_ho] at hd hp;have H:=St.one hd.1;have HK:Ks w (pA X).fp [deA,poolA P]:=⟨fun A hA=>by
   simp at hA;rcases hA with rfl|rfl
   ·exact hd.2.1
   ·exact hp.2.1,fun A hA b hbA hm=>by
   simp at hA;rcases hA with rfl|rfl
   ·exact hd.2.2 b hm hbA
   ·exact hp.2.2 b hm hbA⟩
 generalize (pA X).fp=M at *;have HML:Hid (∀ l,lenL (T.lay l)<=maxT):=zh fun l=>by
  rw [← hT.seq,h0,lenL_seq,lenL_leaf];unfold maxT;omega
 have HCN:=zh hT;have HUP:=zh hU;have HPX:=zh hX;obtain ⟨n,hn⟩:∃ n,text.length=n:=⟨_,rfl⟩
 have HLN:Hid ((T.lay 0).length=n):=zh (by rw [h0,List.length_map,hn]);rw [hn] at hlen h1 HLE ⊢;clear hd hp hr hb hX hn hT h0 hU;have d0:decide ((65536:Int)<(n:Int))=false:=(by simp;omega);have d1:((n:Int)==0)=false:=(by simp;omega);go_enter Tryz.func22,Tryz.ntmps22;go_wp2_with (first|refine sL ?_|(refine sS ?_;clear H;intros;rename_i H));with_reducible refine zm (HLE.out _ (H.sepK HK pk pk) (H.sepK HK pk pk)) ?_
 rintro e wc ⟨X0,x1,x2,⟨gi,gk,CI,CK,ids,rfl,hs,hsz,hb⟩|⟨rfl,hm,hl,hb⟩⟩;rotate_left
 ·clear H;have H:=hb;clear hb;have HX:=zh (za x1 (za x2 (za hm hl)));clear x1 x2 hm hl;simp only [EV] at *;go_wp2_with (first|refine sL ?_|(refine sS ?_;clear H;intros;rename_i H));go_ret2;exact ⟨X0,HX.out.1,HX.out.2.1,by have:=HX.out.2.2.2;omega,.inr ⟨rfl,HX.out.2.2.1⟩,H.picks (.cons pk .nil)⟩
 ·clear H;have H:=hb;clear hb;have HIN0:Hid (OfIn X X0 T n 0 n CI CK ids):=zh ⟨x1,x2,hs,by rw [hs.den.len,HLN.out],h1,by omega⟩;clear x1 x2 hs hsz;go_wp2_with (first|refine sL ?_|(refine sS ?_;clear H;intros;rename_i H));rename_i b6 _ _ _ _
  go_loopw [8] (fun v8 wr=>OfRel X T n gi gk b6 M w v8 wr) (fun v8 _=>25340-(intOf v8).toNat)
  case atStart=>exact ⟨X0,0,n,CI,CK,ids,rfl,HIN0.out,Nat.zero_le _,H.picks (.cons pk (.cons pk (.cons pk (.cons pk .nil))))⟩
  case round =>
   clear H HIN0;obtain ⟨X1,l,q,C1,K1,ids1,rfl,hin,hl2,H⟩:=hrel;have hq1:=hin.pos;have HIN:=zh hin;have hqn:q<=n:=(by have:=hin.inn.i.len;rw [hin.len] at this;exact this);have hql:(T.lay l).length=q:=(by rw [← hin.inn.den.len,hin.len]);have HQL:=zh hql;clear hin hql;by_cases hq:1<q
   ·have hlt:l<25339:=HCN.out.two HUP.out (by rw [HQL.out];exact hq);have d2:decide ((1:Int)<(q:Int))=true:=(by simp;omega);replace H:=((H.picks (L':=[blk gi (.cells C1 26),blk gk (.cells K1 74),pA X1,blk b6 (.cells #[.slice (some ⟨gi,0,none⟩) q n,.slice (some ⟨gk,0,none⟩) q n] 122)]) (.cons pk (.cons pk (.cons pk (.cons pk .nil))))).join.pick2 (A:=pA X1) (B:=(blk gi (.cells C1 26)).sep (blk gk (.cells K1 74))) pk pk).join;by_cases hpar:(l+1)%2=1
    ·have HRU:Hid (∀ w,(((pA X1).sep ((blk gi (.cells C1 26)).sep (blk gk (.cells K1 74)))).sep deA).ho w->Calls Tryz.prog 63 #[.pointer (some ⟨X.p,0,none⟩),.agg #[.slice (some ⟨gi,0,none⟩) q n,.slice (some ⟨gk,0,none⟩) q n]] w (SeqPost X1 gi gk n n q (T.lay (l+1)) ((pA X1).sep ((blk gi (.cells C1 26)).sep (blk gk (.cells K1 74)))).fp w)):=zh fun w h=>by
      have:=runs_p HIN.out.ok HIN.out.inn (by rw [HIN.out.len];exact hq1) (by rw [HIN.out.len];omega) (HML.out l) w h;rw [HIN.out.len,HIN.out.ext.p] at this;have hst:=HCN.out.step l;rw [stepP,if_pos hpar] at hst;rwa [hst] at this
     go_wp2_with (first|refine sL ?_|(refine sS ?_;clear H;intros;rename_i H));with_reducible refine zm (HRU.out _ (H.sepK HK pk pk)) ?_
     rintro e wc ⟨X2,C2,K2,y1,y2,hcl,⟨ids2,rfl,hs,hsz⟩|⟨rfl,hmo,hsz⟩⟩
     ·replace H:=(H.pick pk).call hcl;clear hcl;simp only [List.cons_append,List.nil_append] at H;obtain ⟨q2,hq2⟩:∃ q2,(T.lay (l+1)).length=q2:=⟨_,rfl⟩
      have HIN2:Hid (OfIn X X2 T n (l+1) q2 C2 K2 ids2):=zh ⟨HIN.out.ext.trans y1,y2,hs,by rw [hs.den.len,hq2],by rw [← hq2];exact lay_pos HCN.out.pow,by rw [← hq2];have:=HIN.out.size;omega⟩;clear y1 y2 hs hsz;rw [hq2];clear hq2;go_wp2_with (first|refine sL ?_|(refine sS ?_;clear H;intros;rename_i H));exact ⟨⟨X2,l+1,q2,C2,K2,ids2,by go_num,HIN2.out,by omega,H.picks (.cons pk (.cons pk (.cons pk (.cons pk .nil))))⟩,by simp [intOf];omega⟩
     ·replace H:=(H.pick pk).call hcl;clear hcl;simp only [List.cons_append,List.nil_append] at H;have HY:=zh (za y1 (za y2 (za hmo hsz)));clear y1 y2 hmo hsz;simp only [EV] at *;go_wp2_with (first|refine sL ?_|(refine sS ?_;clear H;intros;rename_i H));go_ret2;exact ⟨X2,HIN.out.ext.trans HY.out.1,HY.out.2.1,by have:=HY.out.2.2.2;have:=HIN.out.size;omega,.inr ⟨rfl,HY.out.2.2.1⟩,H.picks (.cons pk .nil)⟩
    ·have HRU:Hid (∀ w,(((pA X1).sep ((blk gi (.cells C1 26)).sep (blk gk (.cells K1 74)))).sep deA).ho w->Calls Tryz.prog 64 #[.pointer (some ⟨X.p,0,none⟩),.agg #[.slice (some ⟨gi,0,none⟩) q n,.slice (some ⟨gk,0,none⟩) q n],.int .i64 ((l:Int)+1)] w (SeqPost X1 gi gk n n q (T.lay (l+1)) ((pA X1).sep ((blk gi (.cells C1 26)).sep (blk gk (.cells K1 74)))).fp w)):=zh fun w h=>by
      have:=pairs_p (L:=l+1) HIN.out.ok HIN.out.inn (by omega) (by omega) (by omega) (by rw [HIN.out.len];exact hq1) (by rw [HIN.out.len];omega) (HML.out l) w h;rw [HIN.out.len,HIN.out.ext.p] at this;have hst:=HCN.out.step l;rw [stepP,if_neg hpar] at hst;rwa [hst] at this
     go_wp2_with (first|refine sL ?_|(refine sS ?_;clear H;intros;rename_i H));with_reducible refine zm (HRU.out _ (H.sepK HK pk pk)) ?_
     rintro e wc ⟨X2,C2,K2,y1,y2,hcl,⟨ids2,rfl,hs,hsz⟩|⟨rfl,hmo,hsz⟩⟩
     ·replace H:=(H.pick pk).call hcl;clear hcl;simp only [List.cons_append,List.nil_append] at H;obtain ⟨q2,hq2⟩:∃ q2,(T.lay (l+1)).length=q2:=⟨_,rfl⟩
      have HIN2:Hid (OfIn X X2 T n (l+1) q2 C2 K2 ids2):=zh ⟨HIN.out.ext.trans y1,y2,hs,by rw [hs.den.len,hq2],by rw [← hq2];exact lay_pos HCN.out.pow,by rw [← hq2];have:=HIN.out.size;omega⟩;clear y1 y2 hs hsz;rw [hq2];clear hq2;go_wp2_with (first|refine sL ?_|(refine sS ?_;clear H;intros;rename_i H));exact ⟨⟨X2,l+1,q2,C2,K2,ids2,by go_num,HIN2.out,by omega,H.picks (.cons pk (.cons pk (.cons pk (.cons pk .nil))))⟩,by simp [intOf];omega⟩
     ·replace H:=(H.pick pk).call hcl;clear hcl;simp only [List.cons_append,List.nil_append] at H;have HY:=zh (za y1 (za y2 (za hmo hsz)));clear y1 y2 hmo hsz;simp only [EV] at *;go_wp2_with (first|refine sL ?_|(refine sS ?_;clear H;intros;rename_i H));go_ret2;exact ⟨X2,HIN.out.ext.trans HY.out.1,HY.out.2.1,by have:=HY.out.2.2.2;have:=HIN.out.size;omega,.inr ⟨rfl,HY.out.2.2.1⟩,H.picks (.cons pk .nil)⟩
   ·obtain rfl:q=1:=by omega
    have hone:=HCN.out.one (m:=l) (by rw [HQL.out];exact Nat.le_refl _);have hin:=HIN.out;have hden:=hin.inn.den;rw [hone] at hden;obtain ⟨id,hid⟩:∃ id,ids1=[id]:=by
     have:=hin.len;cases ids1 with
     |nil=>simp at this
     |cons a r=>cases r with
      |nil=>exact ⟨a,rfl⟩
      |cons _ _=>simp at this
    subst hid;have HID:=zh hden.1;have HC:Hid (∀ w,(blk gi (.cells C1 26)).ho w->w.cell? ⟨gi,0,none⟩=some (.int .i64 id)):=zh fun w h=>arr_cell h (HIN.out.inn.i.nw 0 id rfl)
    clear hone hin hden;go_wp2_with (first|refine sL ?_|(refine sS ?_;clear H;intros;rename_i H));go_ret2;exact ⟨X1,HIN.out.ext,HIN.out.ok,by have:=HIN.out.size;omega,.inl ⟨id,rfl,HID.out⟩,H.picks (.cons pk .nil)⟩
end
section
open Go.RowKit Go.Maps
attribute [local go_sem] InGr
structure Fr where
 id:Nat
 r:Rl
 lev:Nat
 hv:Nat
def Fr.cells (f:Fr):List Value:=[.int .i64 f.id,.int .i64 f.r.kind,.int .u8 f.r.letter,.int .i64 f.r.left,.int .i64 f.r.right,.int .i64 f.r.times,.int .i64 f.lev,.int .i64 f.hv]
def wholeN (r:Rl):Nat:=if r.kind=3 then r.times else 2
def farN (bk:Bool) (f:Fr):Nat:=if f.r.kind=2∧bk=true then f.r.right else f.r.left
def childN (bk:Bool) (f:Fr):Nat:=if f.r.kind=2∧((f.hv=2∧bk=false)∨(f.hv=1∧bk=true)) then f.r.right else f.r.left
theorem whole_c (r:Rl) (w:World):Calls Tryz.prog 173 #[ruleV r] w fun e w'=>e=.returned (.int .i64 (wholeN r))∧St w [] [] w':=by
 have H:=St.nil w [];unfold wholeN ruleV;by_cases h:r.kind=3
 ·rw [if_pos h];have h2:((r.kind:Int)==3)=true:=(by simp;omega);clear h;go_enter Tryz.func173,Tryz.ntmps173;go_wp2_with (first|refine sL ?_|(refine sS ?_;clear H;intros;rename_i H));go_ret;exact ⟨rfl,H.nix⟩
 ·rw [if_neg h];have h2:((r.kind:Int)==3)=false:=(by simp;omega);clear h;go_enter Tryz.func173,Tryz.ntmps173;go_wp2_with (first|refine sL ?_|(refine sS ?_;clear H;intros;rename_i H));go_ret;exact ⟨rfl,H.nix⟩
theorem far_c (f:Fr) (bk:Bool) (w:World):Calls Tryz.prog 159 #[.agg #[.int .i64 f.id,.int .i64 f.r.kind,.int .u8 f.r.letter,.int .i64 f.r.left,.int .i64 f.r.right,.int .i64 f.r.times,.int .i64 f.lev,.int .i64 f.hv],.bool bk] w fun e w'=>e=.returned (.int .i64 (farN bk f))∧St w [] [] w':=by
 have H:=St.nil w [];unfold farN;by_cases h:f.r.kind=2
 ·have h2:((f.r.kind:Int)==2)=true:=(by simp;omega);cases bk with
  |true =>
   rw [if_pos ⟨h,rfl⟩];clear h;go_enter Tryz.func159,Tryz.ntmps159;go_wp2_with (first|refine sL ?_|(refine sS ?_;clear H;intros;rename_i H));go_ret;exact ⟨rfl,H.nix⟩
  |false =>
   rw [if_neg (by simp)];clear h;go_enter Tryz.func159,Tryz.ntmps159;go_wp2_with (first|refine sL ?_|(refine sS ?_;clear H;intros;rename_i H));go_ret;exact ⟨rfl,H.nix⟩
 ·rw [if_neg (fun e=>h e.1)];have h2:((f.r.kind:Int)==2)=false:=(by simp;omega);clear h;go_enter Tryz.func159,Tryz.ntmps159;go_wp2_with (first|refine sL ?_|(refine sS ?_;clear H;intros;rename_i H));go_ret;exact ⟨rfl,H.nix⟩
theorem child_c (f:Fr) (bk:Bool) (w:World):Calls Tryz.prog 160 #[.agg #[.int .i64 f.id,.int .i64 f.r.kind,.int .u8 f.r.letter,.int .i64 f.r.left,.int .i64 f.r.right,.int .i64 f.r.times,.int .i64 f.lev,.int .i64 f.hv],.bool bk] w fun e w'=>e=.returned (.int .i64 (childN bk f))∧St w [] [] w':=by
 have H:=St.nil w [];unfold childN;by_cases h:f.r.kind=2
 ·have h2:((f.r.kind:Int)==2)=true:=(by simp;omega);by_cases h3:f.hv=2
  ·have h4:((f.hv:Int)==2)=true:=(by simp;omega);have h5:((f.hv:Int)==1)=false:=(by simp;omega);cases bk with
   |false =>
    rw [if_pos ⟨h,.inl ⟨h3,rfl⟩⟩];clear h h3;go_enter Tryz.func160,Tryz.ntmps160;go_wp2_with (first|refine sL ?_|(refine sS ?_;clear H;intros;rename_i H));go_ret;exact ⟨rfl,H.nix⟩
   |true =>
    rw [if_neg (by rintro ⟨_,⟨_,e⟩|⟨e,_⟩⟩;cases e;omega)];clear h h3;go_enter Tryz.func160,Tryz.ntmps160;go_wp2_with (first|refine sL ?_|(refine sS ?_;clear H;intros;rename_i H));go_ret;exact ⟨rfl,H.nix⟩
  ·have h4:((f.hv:Int)==2)=false:=(by simp;omega);by_cases h6:f.hv=1
   ·have h5:((f.hv:Int)==1)=true:=(by simp;omega);cases bk with
    |false =>
     rw [if_neg (by rintro ⟨_,⟨e,_⟩|⟨_,e⟩⟩;omega;cases e)];clear h h3 h6;go_enter Tryz.func160,Tryz.ntmps160;go_wp2_with (first|refine sL ?_|(refine sS ?_;clear H;intros;rename_i H));go_ret;exact ⟨rfl,H.nix⟩
    |true =>
     rw [if_pos ⟨h,.inr ⟨h6,rfl⟩⟩];clear h h3 h6;go_enter Tryz.func160,Tryz.ntmps160;go_wp2_with (first|refine sL ?_|(refine sS ?_;clear H;intros;rename_i H));go_ret;exact ⟨rfl,H.nix⟩
   ·have h5:((f.hv:Int)==1)=false:=(by simp;omega);rw [if_neg (by rintro ⟨_,⟨e,_⟩|⟨e,_⟩⟩ <;> omega)];clear h h3 h6;go_enter Tryz.func160,Tryz.ntmps160;go_wp2_with (first|refine sL ?_|(refine sS ?_;clear H;intros;rename_i H));go_ret;exact ⟨rfl,H.nix⟩
 ·have h2:((f.r.kind:Int)==2)=false:=(by simp;omega);rw [if_neg (fun e=>h e.1)];clear h;go_enter Tryz.func160,Tryz.ntmps160;go_wp2_with (first|refine sL ?_|(refine sS ?_;clear H;intros;rename_i H));go_ret;exact ⟨rfl,H.nix⟩
theorem size_p {X:Px} {id:Nat} {t:Tr} (hX:PxOk X) (hd:Den X.S id t) (w:World) (h:(pA X).ho w):Calls Tryz.prog 92 #[.pointer (some ⟨X.p,0,none⟩),.int .i64 id] w fun e w'=>e=.returned (.int .i64 t.len)∧St w [] [] w':=by
 obtain ⟨i,x,rfl,hx,ht⟩:=den_get hd;have hl:=(tr_len hX.ok i x hx).1;rw [ht] at hl;rw [hl];have HK:=Ks.one h;have H:=St.nil w [];have HW:Hid (∀ w,(pA X).ho w->Calls Tryz.prog 40 #[.pointer (some ⟨X.s,0,none⟩),.int .i64 ((i:Int)+1)] w fun e w'=>e=.returned (.tuple #[.agg #[.int .i64 x.w.len,.int .i64 x.w.lines,.int .i64 x.w.head,.int .i64 x.w.tail,.int .u64 x.w.val,.int .u64 x.w.scale],.nilIface])∧St w [] [] w'):=zh fun w h=>by
  exact weight_c (i:=i+1) hx w (pA_sto h)
 have HS:Hid (∀ w,(pA X).ho w->Calls Tryz.prog 53 #[.pointer (some ⟨X.p,0,none⟩)] w fun e w'=>e=.returned (.pointer (some ⟨X.s,0,none⟩))∧w'=w):=zh fun w h=>store_p w h
 clear hl ht hx hd hX h;go_enter Tryz.func92,Tryz.ntmps92;go_wp2_with (first|refine sL ?_|(refine sS ?_;clear H;intros;rename_i H)|(go_at_call 53;refine same (HS.out _ (H.known HK pk)) ?_)|(go_at_call 40;with_reducible refine zm (HW.out _ (H.known HK pk)) ?_;rintro e wc ⟨rfl,hb⟩;replace H:=H.grew hb.below;clear hb));go_ret;exact ⟨rfl,H.nix⟩
end
section
open Go.RowKit Go.Maps
attribute [local go_sem] InGr
attribute [local go_sem] StStep stAt stUpon in
theorem open_c {X:Px} {b o id i a:Nat} {x:En} {t:Tr} {Y:As} (hX:PxOk X) (hd:Den X.S id t) (hl:t.lev=some a) (hi:id=i+1) (hx:X.S.list[i]?=some x) (hcp:∀ w,Y.ho w->w.cell? ⟨b,o,none⟩=some (.pointer (some ⟨X.p,0,none⟩))) (hci:∀ w,Y.ho w->w.cell? ⟨b,o+3,none⟩=some (.int .i64 id)) (w:World) (h1:((pA X).sep deA).ho w) (h2:((pA X).sep Y).ho w) :
  Calls Tryz.prog 158 #[.pointer (some ⟨b,o,none⟩)] w (PPost X (.agg #[.int .i64 id,.int .i64 x.r.kind,.int .u8 x.r.letter,.int .i64 x.r.left,.int .i64 x.r.right,.int .i64 x.r.times,.int .i64 a,.int .i64 (wholeN x.r:Nat)]) (pA X).fp w):=by
 rw [sep_ho] at h1 h2;have H:=St.one h1.1;have HK:Ks w (pA X).fp [deA,Y]:=⟨fun A hA=>by
   simp at hA;rcases hA with rfl|rfl
   ·exact h1.2.1
   ·exact h2.2.1,fun A hA b hbA hm=>by
   simp at hA;rcases hA with rfl|rfl
   ·exact h1.2.2 b hm hbA
   ·exact h2.2.2 b hm hbA⟩
 have HSP:Hid (∀ w,(pA X).ho w->Calls Tryz.prog 53 #[.pointer (some ⟨X.p,0,none⟩)] w fun e w'=>e=.returned (.pointer (some ⟨X.s,0,none⟩))∧w'=w):=zh fun w h=>store_p w h
 have HKP:Hid (∀ w,(pA X).ho w->Calls Tryz.prog 174 #[.pointer (some ⟨X.p,0,none⟩)] w fun e w'=>e=.returned (.pointer (some ⟨X.K.t,0,none⟩))∧w'=w):=zh fun w h=>keys_p w h
 have HRU:Hid (∀ w,(pA X).ho w->Calls Tryz.prog 68 #[.pointer (some ⟨X.s,0,none⟩),.int .i64 id] w fun e w'=>e=.returned (.tuple #[.agg #[.int .i64 x.r.kind,.int .u8 x.r.letter,.int .i64 x.r.left,.int .i64 x.r.right,.int .i64 x.r.times],.nilIface])∧St w [] [] w'):=zh fun w h=>rule_c hx id (by omega) w (pA_sto h)
 have HLV:Hid (∀ w,((pA X).sep deA).ho w->Calls Tryz.prog 122 #[.pointer (some ⟨X.K.t,0,none⟩),.int .i64 id] w (PPost X (.tuple #[.int .i64 a,.nilIface]) (pA X).fp w)):=zh fun w h=>by
  have:=level_p hX hd w h;rw [hl] at this;exact this
 have HWH:Hid (∀ w,Calls Tryz.prog 173 #[.agg #[.int .i64 x.r.kind,.int .u8 x.r.letter,.int .i64 x.r.left,.int .i64 x.r.right,.int .i64 x.r.times]] w fun e w'=>e=.returned (.int .i64 (wholeN x.r:Nat))∧St w [] [] w'):=zh fun w=>whole_c x.r w
 have HCP:=zh hcp;have HCI:=zh hci;generalize (pA X).fp=M at H HK ⊢;clear h1 h2 hX hd hl hi hx hcp hci;go_enter Tryz.func158,Tryz.ntmps158;go_wp2_with (first|refine sL ?_|(refine sS ?_;clear H;intros;rename_i H));rename_i b2 _ _ _;replace H:St w M [pA X,blk b2 (.cells #[.int .i64 0,.int .i64 0,.int .u8 0,.int .i64 0,.int .i64 0,.int .i64 0,.int .i64 0,.int .i64 0] 265)] _:=H.picks (.cons pk (.cons pk .nil));refine wp_region_sgx 16 [⟨[],fun v _=>v=.pointer (some ⟨b,o,none⟩)⟩,⟨[0],fun v _=>v=.pointer (some ⟨b,o,none⟩)⟩,⟨[1],fun v _=>v=.pointer (some ⟨b,o,none⟩)⟩,⟨[2],fun v _=>v=.pointer (some ⟨X.p,0,none⟩)⟩,⟨[3],fun v _=>v=.pointer (some ⟨X.s,0,none⟩)⟩,⟨[],fun v _=>v=.pointer (some ⟨b,o,none⟩)⟩,⟨[5],fun v _=>v=.pointer (some ⟨b,o,none⟩)⟩,⟨[6],fun v _=>v=.pointer (some ⟨b,o+3,none⟩)⟩,⟨[7],fun v _=>v=.int .i64 id⟩,⟨[4,8],fun v _=>v=.tuple #[.agg #[.int .i64 x.r.kind,.int .u8 x.r.letter,.int .i64 x.r.left,.int .i64 x.r.right,.int .i64 x.r.times],.nilIface]⟩,⟨[9],fun v _=>v=.tuple #[.agg #[.int .i64 x.r.kind,.int .u8 x.r.letter,.int .i64 x.r.left,.int .i64 x.r.right,.int .i64 x.r.times],.nilIface]⟩,⟨[10],fun v _=>v=.agg #[.int .i64 x.r.kind,.int .u8 x.r.letter,.int .i64 x.r.left,.int .i64 x.r.right,.int .i64 x.r.times]⟩,⟨[10],fun v _=>v=.nilIface⟩,⟨[],fun v _=>∃ b3:Nat,v=.pointer (some ⟨b3,0,none⟩)⟩,⟨[11,13],fun _ _=>True⟩,⟨[12],fun v _=>v=.nilIface⟩] [13,14] [[0,1],[0,1],[0,1],[0,1],[0,1],[0,1],[0,1],[0,1],[0,1],[0,1],[0,1],[0,1],[0,1,2],[0],[1],[2]] [fun _ wx=>St w M [pA X,blk b2 (.cells #[.int .i64 0,.int .i64 0,.int .u8 0,.int .i64 0,.int .i64 0,.int .i64 0,.int .i64 0,.int .i64 0] 265)] wx,fun vals wx=>∃ b3:Nat,vals 13=.pointer (some ⟨b3,0,none⟩)∧St w M [blk b3 (.cells #[.int .i64 0,.int .u8 0,.int .i64 0,.int .i64 0,.int .i64 0] 131),pA X,blk b2 (.cells #[.int .i64 0,.int .i64 0,.int .u8 0,.int .i64 0,.int .i64 0,.int .i64 0,.int .i64 0,.int .i64 0] 265)] wx,fun vals wx=>∃ b3:Nat,vals 13=.pointer (some ⟨b3,0,none⟩)∧St w M [blk b3 (.cells #[.int .i64 x.r.kind,.int .u8 x.r.letter,.int .i64 x.r.left,.int .i64 x.r.right,.int .i64 x.r.times] 131),pA X,blk b2 (.cells #[.int .i64 0,.int .i64 0,.int .u8 0,.int .i64 0,.int .i64 0,.int .i64 0,.int .i64 0,.int .i64 0] 265)] wx]
  [[],[(0,8)],[(1,9)],[(2,10)],[(3,11)],[],[(5,13)],[(6,14)],[(7,15)],[(4,12),(8,16)],[(9,17)],[(10,7)],[(10,7)],[],[(11,18),(13,3)],[(12,19)]] [(0,8),(1,9),(2,10),(3,11),(4,12),(5,13),(6,14),(7,15),(8,16),(9,17),(10,7),(11,18),(12,19),(13,3),(15,4)] (by kernel_rfl) (by kernel_rfl) H.drew ⟨⟨qo,qo,trivial⟩,⟨qo,qo,trivial⟩,⟨qo,qo,trivial⟩,⟨ql,ql,trivial⟩,⟨?_,?_,trivial⟩,⟨qo,qo,trivial⟩,⟨qo,qo,trivial⟩,⟨qo,qo,trivial⟩,⟨ql,ql,trivial⟩,⟨?_,?_,trivial⟩,⟨qo,qo,trivial⟩,⟨qo,qo,trivial⟩,⟨qo,qo,qo,trivial⟩,⟨?_,trivial⟩,⟨?_,trivial⟩,⟨qo,trivial⟩,trivial⟩ ?_
 ·intro vals wx hd HC;simp only [GF] at hd;have h3:=hd;clear hd;have H:=HC;simp only [CA] at H;simp only [PS,h3];clear h3;go_simp;with_reducible refine zm (HSP.out _ (H.get pk)) ?_
  rintro e wc ⟨rfl,rfl⟩;first|exact ⟨_,rfl,rfl,HC⟩|exact ⟨_,rfl,HC⟩
 ·intro vals wx hd HC;simp only [GF] at hd;have h3:=hd;clear hd;have H:=HC;simp only [CA] at H;obtain ⟨b3,hv,H⟩:=H;simp only [PS,h3];clear h3;go_simp;with_reducible refine zm (HSP.out _ (H.get pk)) ?_
  rintro e wc ⟨rfl,rfl⟩;first|exact ⟨_,rfl,rfl,HC⟩|exact ⟨_,rfl,HC⟩
 ·intro vals wx hd HC;simp only [GF] at hd;obtain ⟨h4,h8⟩:=hd;have H:=HC;simp only [CA] at H;simp only [PS,h4,h8];clear h4 h8 HC;go_simp;with_reducible refine zm (HRU.out _ (H.get pk)) ?_
  rintro e wc ⟨rfl,hb⟩;replace H:=H.grew hb.below;exact ⟨_,rfl,rfl,H⟩
 ·intro vals wx hd HC;simp only [GF] at hd;obtain ⟨h4,h8⟩:=hd;have H:=HC;simp only [CA] at H;obtain ⟨b3,hv,H⟩:=H;simp only [PS,h4,h8];clear h4 h8 HC;go_simp;with_reducible refine zm (HRU.out _ (H.get pk)) ?_
  rintro e wc ⟨rfl,hb⟩;replace H:=H.grew hb.below;exact ⟨_,rfl,rfl,⟨b3,hv,H⟩⟩
 ·intro vals wx hd HC;clear hd;have H:=HC;simp only [CA] at H;simp only [PS];clear HC;refine StStep.allocT H rfl rfl rfl rfl ?_;intro b3 wz H;exact ⟨⟨b3,rfl⟩,b3,rfl,H⟩
 ·intro vals wx hd HC;simp only [GF] at hd;obtain ⟨h11,h13⟩:=hd;have H:=HC;simp only [CA] at H;obtain ⟨b3,hv,H⟩:=H;simp only [PS,h11,hv,h11];refine StStep.storeT rfl rfl rfl rfl rfl rfl H rfl ?_;intro wz H;exact ⟨trivial,b3,hv,H⟩
 intro vals wx hd HC;have h13:=hd.2.2.2.2.2.2.2.2.2.2.2.2.2.1;simp only [CA] at HC;obtain ⟨b3,hv,H⟩:=HC;simp only [GF] at hd;simp only [PS,hd];clear hd;simp only [hv];clear hv;go_wp2_with (first|refine sL ?_|(refine sS ?_;clear H;intros;rename_i H));replace H:St w M [pA X,blk b3 (.cells #[.int .i64 x.r.kind,.int .u8 x.r.letter,.int .i64 x.r.left,.int .i64 x.r.right,.int .i64 x.r.times] 131),blk b2 (.cells #[.int .i64 0,.int .i64 0,.int .u8 0,.int .i64 0,.int .i64 0,.int .i64 0,.int .i64 0,.int .i64 0] 265)] _:=H.picks (.cons pk (.cons pk (.cons pk .nil)));refine wp_region_sgx 15 [⟨[],fun v _=>v=.pointer (some ⟨b,o,none⟩)⟩,⟨[0],fun v _=>v=.pointer (some ⟨b,o,none⟩)⟩,⟨[1],fun v _=>v=.pointer (some ⟨b,o,none⟩)⟩,⟨[2],fun v _=>v=.pointer (some ⟨X.p,0,none⟩)⟩,⟨[3],fun v _=>v=.pointer (some ⟨X.K.t,0,none⟩)⟩,⟨[],fun v _=>v=.pointer (some ⟨b,o,none⟩)⟩,⟨[5],fun v _=>v=.pointer (some ⟨b,o,none⟩)⟩,⟨[6],fun v _=>v=.pointer (some ⟨b,o+3,none⟩)⟩,⟨[7],fun v _=>v=.int .i64 id⟩,⟨[4,8],fun v _=>v=.tuple #[.int .i64 a,.nilIface]⟩,⟨[9],fun v _=>v=.tuple #[.int .i64 a,.nilIface]⟩,⟨[10],fun v _=>v=.int .i64 a⟩,⟨[10],fun v _=>v=.nilIface⟩,⟨[11],fun v _=>v=.int .i64 a⟩,⟨[12],fun v _=>v=.nilIface⟩] [9] [[0],[0],[0],[0],[0],[0],[0],[0],[0],[0],[1],[1],[1],[1],[1]] [fun _ wx=>St w M [pA X,blk b3 (.cells #[.int .i64 x.r.kind,.int .u8 x.r.letter,.int .i64 x.r.left,.int .i64 x.r.right,.int .i64 x.r.times] 131),blk b2 (.cells #[.int .i64 0,.int .i64 0,.int .u8 0,.int .i64 0,.int .i64 0,.int .i64 0,.int .i64 0,.int .i64 0] 265)] wx,fun _ wx=>∃ X2:Px,(X.Ext X2∧PxOk X2∧X2.S=X.S)∧St w M [pA X2,blk b3 (.cells #[.int .i64 x.r.kind,.int .u8 x.r.letter,.int .i64 x.r.left,.int .i64 x.r.right,.int .i64 x.r.times] 131),blk b2 (.cells #[.int .i64 0,.int .i64 0,.int .u8 0,.int .i64 0,.int .i64 0,.int .i64 0,.int .i64 0,.int .i64 0] 265)] wx]
  [[],[(0,21)],[(1,22)],[(2,23)],[(3,24)],[],[(5,26)],[(6,27)],[(7,28)],[(4,25),(8,29)],[(9,30)],[(10,20)],[(10,20)],[(11,31)],[(12,32)]] [(0,21),(1,22),(2,23),(3,24),(4,25),(5,26),(6,27),(7,28),(8,29),(9,30),(10,20),(11,31),(12,32),(13,5),(14,6)] (by kernel_rfl) (by kernel_rfl) H.drew ⟨⟨qo,trivial⟩,⟨qo,trivial⟩,⟨qo,trivial⟩,⟨ql,trivial⟩,⟨?_,trivial⟩,⟨qo,trivial⟩,⟨qo,trivial⟩,⟨qo,trivial⟩,⟨ql,trivial⟩,⟨?_,trivial⟩,⟨qo,trivial⟩,⟨qo,trivial⟩,⟨qo,trivial⟩,⟨qo,trivial⟩,⟨qo,trivial⟩,trivial⟩ ?_
 ·intro vals wx hd HC;simp only [GF] at hd;have h3:=hd;clear hd;have H:=HC;simp only [CA] at H;simp only [PS,h3];clear h3;go_simp;with_reducible refine zm (HKP.out _ (H.get pk)) ?_
  rintro e wc ⟨rfl,rfl⟩;first|exact ⟨_,rfl,rfl,HC⟩|exact ⟨_,rfl,HC⟩
 ·intro vals wx hd HC;simp only [GF] at hd;obtain ⟨h4,h8⟩:=hd;have H:=HC;simp only [CA] at H;simp only [PS,h4,h8];clear h4 h8 HC;go_simp;with_reducible refine zm (HLV.out _ (H.sepK HK pk pk)) ?_
  rintro e wc ⟨X2,y1,y2,y3,rfl,hb⟩;have H2:=(H.pick pk).call hb;exact ⟨_,rfl,rfl,X2,⟨y1,y2,y3⟩,by simpa using H2⟩
 intro vals wx hd HC;simp only [CA] at HC;obtain ⟨X2,hX2,H⟩:=HC;simp only [GF] at hd;simp only [PS,hd];clear hd;have HY:=zh hX2;clear hX2;go_wp2_with (first|refine sL ?_|(refine sS ?_;clear H;intros;rename_i H));refine wp_region_h H 9 [] [] (by kernel_rfl) (by kernel_rfl) ?_;apply Exists.intro;refine ⟨fun w1 hw1 HX=>?_,fun bs wr Hr=>?_⟩
 ·refine sG ?_;repeat (first|go_big_quiet_skip|refine sQ ?_|((with_reducible refine isQLoad ?_);(refine QtLoad.cel rfl rfl rfl rfl (fun y=>HCI.out _ ((HX y).known HK pk)) ?_;simp only [Act.put,puA,puB,puC]))|go_big_quiet_step ((go_at_call 173;with_reducible exact quiet_st_x (HWH.out _)))|go_big_quiet_step (fail))
  exact wpQuiet_nil rfl
 clear H;have H:=Hr;clear Hr;replace H:=sH H;refine sT ?_;go_wp2_with (first|refine sL ?_|(refine sS ?_;clear H;intros;rename_i H));refine bodyPost_ret (res_row rfl H rfl pk rfl) rfl ?_;exact ⟨X2,HY.out.1,HY.out.2.1,HY.out.2.2,rfl,H.picks (.cons pk .nil)⟩
end
section
structure FrOf (S:Sto) (bk:Bool) (q:Tr×Nat) (f:Fr):Prop where
 den:Den S f.id q.1
 lev:q.1.lev=some f.lev
 rule:∃ i x,f.id=i+1∧S.list[i]?=some x∧f.r=x.r
 lt:q.2<(kids q.1).length
 hv:f.hv=if bk then (kids q.1).length-q.2 else q.2+1
theorem FrOf.le {S S':Sto} {bk:Bool} {q:Tr×Nat} {f:Fr} (h:FrOf S bk q f) (hS:S.Ok) (hl:S.Le S'):FrOf S' bk q f:=by
 obtain ⟨i,x,h1,h2,h3⟩:=h.rule;exact ⟨h.den.le hS hl,h.lev,⟨i,x,h1,hl.get h2,h3⟩,h.lt,h.hv⟩
theorem kids_rule {S:Sto} (hS:S.Ok) {i:Nat} {x:En} {t:Tr} (hx:S.list[i]?=some x) (ht:S.tr (i+1)=t) (hk:0<(kids t).length) :
  wholeN x.r=(kids t).length∧((∃ l r u v,x.r=⟨2,0,l,r,0⟩∧t=.pair u v∧Den S l u∧Den S r v)∨(∃ l u k,x.r=⟨3,0,l,0,k⟩∧t=.pow u k∧2<=k∧Den S l u)):=by
 cases rule_of hS hx with
 |letter b hb hr hw h1 =>
  rw [← ht,h1] at hk;simp [kids] at hk
 |pair l r y z hl hr hy hz he hw hs h1 =>
  rw [h1] at ht;subst ht;refine ⟨by rw [he];rfl,.inl ⟨l+1,r+1,_,_,he,rfl,den_of hy,den_of hz⟩⟩
 |pow l k y hl hy h2 he hw hs h1 =>
  rw [h1] at ht;subst ht;refine ⟨by rw [he];simp [wholeN,kids],.inr ⟨l+1,_,k,he,rfl,h2,den_of hy⟩⟩
theorem FrOf.child {S:Sto} (hS:S.Ok) {bk:Bool} {q:Tr×Nat} {f:Fr} (h:FrOf S bk q f):∃ c,(kids q.1)[q.2]?=some c∧Den S (childN bk f) c:=by
 obtain ⟨t,j⟩:=q;obtain ⟨i,x,e1,hx,e2⟩:=h.rule;have hd:=h.den;have hlt:=h.lt;have hhv:=h.hv;simp only at hd hlt hhv;rw [e1] at hd;obtain ⟨_,hc⟩:=kids_rule hS hx hd.2.2 (by omega);rcases hc with ⟨l,r,u,v,he,rfl,du,dv⟩|⟨l,u,k,he,rfl,hk,du⟩
 ·simp only [kids,List.length_cons,List.length_nil] at hlt hhv;have hj:j=0∨j=1:=(by omega);rcases hj with rfl|rfl
  ·refine ⟨u,rfl,?_⟩;unfold childN;rw [e2,he];cases bk with
   |false=>simp only [Bool.false_eq_true,if_false] at hhv;rw [if_neg (by simp [hhv])];exact du
   |true=>simp only [if_true] at hhv;rw [if_neg (by simp [hhv])];exact du
  ·refine ⟨v,rfl,?_⟩;unfold childN;rw [e2,he];cases bk with
   |false=>simp only [Bool.false_eq_true,if_false] at hhv;rw [if_pos (by simp [hhv])];exact dv
   |true=>simp only [if_true] at hhv;rw [if_pos (by simp [hhv])];exact dv
 ·simp only [kids,List.length_replicate] at hlt;refine ⟨u,by simp [kids,List.getElem?_replicate,hlt],?_⟩;unfold childN;rw [e2,he,if_neg (by simp)];exact du
theorem far_den {S:Sto} (hS:S.Ok) {bk:Bool} {t:Tr} {f:Fr} (hd:Den S f.id t) (hr:∃ i x,f.id=i+1∧S.list[i]?=some x∧f.r=x.r) (hk:0<(kids t).length):∃ c,(kids t)[if bk then (kids t).length-1 else 0]?=some c∧Den S (farN bk f) c:=by
 obtain ⟨i,x,e1,hx,e2⟩:=hr;rw [e1] at hd;obtain ⟨_,hc⟩:=kids_rule hS hx hd.2.2 hk;rcases hc with ⟨l,r,u,v,he,rfl,du,dv⟩|⟨l,u,k,he,rfl,hk2,du⟩
 ·unfold farN;rw [e2,he];cases bk with
  |false=>exact ⟨u,rfl,by rw [if_neg (by simp)];exact du⟩
  |true=>exact ⟨v,rfl,by rw [if_pos (by simp)];exact dv⟩
 ·unfold farN;rw [e2,he,if_neg (show ¬ ((3:Nat)=2∧bk=true) from fun e=>by have:=e.1;omega)];refine ⟨u,?_,du⟩;simp only [kids,List.length_replicate,List.getElem?_replicate];rw [if_pos (by cases bk <;> simp <;> omega)]
theorem FrOf.open_ {S:Sto} (hS:S.Ok) {bk:Bool} {id i a:Nat} {x:En} {t:Tr} (hd:Den S id t) (hi:id=i+1) (hx:S.list[i]?=some x) (hl:t.lev=some a) (hk:0<(kids t).length):FrOf S bk (t,if bk then 0 else (kids t).length-1) ⟨id,x.r,a,wholeN x.r⟩:=by
 subst hi;obtain ⟨hw,_⟩:=kids_rule hS hx hd.2.2 hk;refine ⟨hd,hl,⟨i,x,rfl,hx,rfl⟩,?_,?_⟩
 ·simp only;split <;> omega
 ·simp only;rw [hw];cases bk <;> simp;omega
end
section
open Go.RowKit Go.Maps
structure EndAt (cs:Array Value) (o p:Nat) (bk:Bool) (pv:Value) (id ky:Nat):Prop where
 sz:o+5<=cs.size
 c0:cs[o]?=some (.pointer (some ⟨p,0,none⟩))
 c1:cs[o+1]?=some (.bool bk)
 c2:cs[o+2]?=some pv
 c3:cs[o+3]?=some (.int .i64 id)
 c4:cs[o+4]?=some (.int .u64 ky)
structure AlikeBut (cs cs':Array Value) (o:Nat):Prop where
 size:cs'.size=cs.size
 eq:∀ j,j<o∨o+5<=j->cs'[j]?=cs[j]?
theorem AlikeBut.refl (cs:Array Value) (o:Nat):AlikeBut cs cs o:=⟨rfl,fun _ _=>rfl⟩
theorem AlikeBut.trans {a b c:Array Value} {o:Nat} (h:AlikeBut a b o) (k:AlikeBut b c o):AlikeBut a c o:=⟨k.size.trans h.size,fun j hj=>(k.eq j hj).trans (h.eq j hj)⟩
theorem AlikeBut.set (cs:Array Value) (o j:Nat) (v:Value) (h1:o<=j) (h2:j<o+5):AlikeBut cs (cs.setIfInBounds j v) o:=⟨by simp,fun i hi=>by rw [Array.getElem?_setIfInBounds_ne (by omega)]⟩
theorem EndAt.other {cs cs':Array Value} {o o' p:Nat} {bk:Bool} {pv:Value} {id ky:Nat} (h:EndAt cs o p bk pv id ky) (ha:AlikeBut cs cs' o') (hd:o+5<=o'∨o'+5<=o):EndAt cs' o p bk pv id ky :=
 ⟨by rw [ha.size];exact h.sz,by rw [ha.eq _ (by omega)];exact h.c0,by rw [ha.eq _ (by omega)];exact h.c1,by rw [ha.eq _ (by omega)];exact h.c2,by rw [ha.eq _ (by omega)];exact h.c3,by rw [ha.eq _ (by omega)];exact h.c4⟩
theorem EndAt.setPath {cs:Array Value} {o p:Nat} {bk:Bool} {pv:Value} {id ky:Nat} (h:EndAt cs o p bk pv id ky) (pv':Value):EndAt (cs.setIfInBounds (o+2) pv') o p bk pv' id ky:=by
 have hs:=h.sz;refine ⟨by simpa using hs,?_,?_,?_,?_,?_⟩
 ·rw [Array.getElem?_setIfInBounds_ne (by omega)];exact h.c0
 ·rw [Array.getElem?_setIfInBounds_ne (by omega)];exact h.c1
 ·rw [Array.getElem?_setIfInBounds_self_of_lt (by omega)]
 ·rw [Array.getElem?_setIfInBounds_ne (by omega)];exact h.c3
 ·rw [Array.getElem?_setIfInBounds_ne (by omega)];exact h.c4
theorem EndAt.setId {cs:Array Value} {o p:Nat} {bk:Bool} {pv:Value} {id ky:Nat} (h:EndAt cs o p bk pv id ky) (id':Nat):EndAt (cs.setIfInBounds (o+3) (.int .i64 id')) o p bk pv id' ky:=by
 have hs:=h.sz;refine ⟨by simpa using hs,?_,?_,?_,?_,?_⟩
 ·rw [Array.getElem?_setIfInBounds_ne (by omega)];exact h.c0
 ·rw [Array.getElem?_setIfInBounds_ne (by omega)];exact h.c1
 ·rw [Array.getElem?_setIfInBounds_ne (by omega)];exact h.c2
 ·rw [Array.getElem?_setIfInBounds_self_of_lt (by omega)]
 ·rw [Array.getElem?_setIfInBounds_ne (by omega)];exact h.c4
theorem EndAt.setKey {cs:Array Value} {o p:Nat} {bk:Bool} {pv:Value} {id ky:Nat} (h:EndAt cs o p bk pv id ky) (ky':Nat):EndAt (cs.setIfInBounds (o+4) (.int .u64 ky')) o p bk pv id ky':=by
 have hs:=h.sz;refine ⟨by simpa using hs,?_,?_,?_,?_,?_⟩
 ·rw [Array.getElem?_setIfInBounds_ne (by omega)];exact h.c0
 ·rw [Array.getElem?_setIfInBounds_ne (by omega)];exact h.c1
 ·rw [Array.getElem?_setIfInBounds_ne (by omega)];exact h.c2
 ·rw [Array.getElem?_setIfInBounds_ne (by omega)];exact h.c3
 ·rw [Array.getElem?_setIfInBounds_self_of_lt (by omega)]
def encFr (f:Fr):List Value:=f.cells
theorem encFr_len:∀ f,(encFr f).length=8:=fun _=>rfl
theorem encFr_one:∀ f,∀ u∈encFr f,u.oneCell'=true:=by
 intro f u hu;simp [encFr,Fr.cells] at hu;rcases hu with rfl|rfl|rfl|rfl|rfl|rfl|rfl|rfl <;> rfl
def PathOf (S:Sto) (bk:Bool):List (Tr×Nat)->List Fr->Prop
 |[],fs=>fs=[]
 |q::p,fs=>∃ fs' f,fs=fs'++[f]∧FrOf S bk q f∧PathOf S bk p fs'
theorem PathOf.le {S S':Sto} {bk:Bool} (hS:S.Ok) (hl:S.Le S'):∀ {p:List (Tr×Nat)} {fs:List Fr},PathOf S bk p fs->PathOf S' bk p fs
 |[],_,h=>h
 |_::_,_,⟨fs',f,h1,h2,h3⟩=>⟨fs',f,h1,h2.le hS hl,PathOf.le hS hl h3⟩
theorem PathOf.len {S:Sto} {bk:Bool}:∀ {p:List (Tr×Nat)} {fs:List Fr},PathOf S bk p fs->fs.length=p.length
 |[],_,h=>by rw [h];rfl
 |_::p,_,⟨fs',f,h1,h2,h3⟩=>by rw [h1,List.length_append,PathOf.len h3];rfl
end
section
open Go.RowKit Go.Maps
attribute [local go_sem] InGr
theorem StStep.storeC {ops:Array Oper} {a:Act} {w w0:World} {M:List Nat} {L:List As} {o:Oper} {Rr:Value->World->Prop} {ty:TypeId} {x y:Operand} {g j:Nat} (hw:Region.wanted o (yielded ops a.tmps)=true) (ho:o.op=.store ty x y) (hx:a.eval x=.pointer (some ⟨g,j,none⟩)) {v:Value} (hr:isCellT ty=true) (hy:evalO a y=some v) (h1:v.oneCell'=true)
  {cs:Array Value} {t:TypeId} (H:St w0 M (blk g (.cells cs t)::L) w) (hl:j<cs.size) (h:∀ w',St w0 M (blk g (.cells (cs.setIfInBounds j v) t)::L) w'->Rr undef w'):StStep Tryz.prog ops o a w Rr:=by
 unfold StStep;rw [if_pos hw];have hc:v.cells=#[v]:=(by cases v <;> first|rfl|cases h1);have hg:w.heap[g]?=some (.cells cs t):=H.at Pick.here;have hr':=run_storeVar_at (P:=Tryz.prog) w g j t ty cs v hg (by rw [hc];exact cellTy_size (isCellT_ok hr)) (by rw [hc];simp;omega) (fun u hu=>by rw [hc] at hu;simp at hu;subst hu;exact h1);have e:(cs.toList.take j++v.cells.toList++cs.toList.drop (j+v.cells.size)).toArray=cs.setIfInBounds j v:=by
  rw [hc];apply Array.ext';simp only [Array.toList_setIfInBounds];rw [List.set_eq_take_append_cons_drop,if_pos (by simpa using hl)];simp
 rw [e] at hr';unfold stAt execOp;simp only [ho,hx,evalO_eq hy,Instr.storeAt,Instr.sureAddr,Sem.run_bind,Sem.run_pure,Result.andThen_ok,hr'];exact h _ (H.setRow Upd.here)
theorem downT_step {bk:Bool} {m:Nat} {p:List (Tr×Nat)} {t c:Tr} (hl:m<t.lv) (hc:(kids t)[if bk then 0 else (kids t).length-1]?=some c):downT bk m p t=downT bk m ((t,if bk then 0 else (kids t).length-1)::p) c:=by
 cases t with
 |leaf b=>simp [kids] at hc
 |pair l r =>
  rw [downT,if_neg (by omega)];cases bk with
  |true=>simp [kids] at hc;subst hc;simp
  |false=>simp [kids] at hc;subst hc;simp [kids]
 |pow s k =>
  rw [downT,if_neg (by omega)];have:c=s:=List.eq_of_mem_replicate (List.mem_of_getElem? hc);subst this;simp [kids]
theorem downT_end {bk:Bool} {m:Nat} {p:List (Tr×Nat)} {t:Tr} (hl:t.lv<=m):downT bk m p t=(p,t):=by
 cases t with
 |leaf b=>rfl
 |pair l r=>rw [downT,if_pos hl]
 |pow s k=>rw [downT,if_pos hl]
structure DownIn (X X':Px) (bk:Bool) (m o lim:Nat) (p:List (Tr×Nat)) (x:Tr) (cs cs':Array Value) (pv':Value) (fs':List Fr) (p':List (Tr×Nat)) (x':Tr) (f:Fr) (ky:Nat):Prop where
 ext:X.Ext X'
 ok:PxOk X'
 same:X'.S=X.S
 at_:EndAt cs' o X.p bk pv' f.id ky
 alike:AlikeBut cs cs' o
 path:PathOf X'.S bk p' fs'
 den:Den X'.S f.id x'
 gd:x'.Gd
 lev:x'.lev=some f.lev
 rule:∃ i en,f.id=i+1∧X'.S.list[i]?=some en∧f.r=en.r
 hv:f.hv=wholeN f.r
 way:downT bk m p' x'=downT bk m p x
 room:fs'.length+x'.lv<=lim
theorem DownIn.fr {X X':Px} {bk:Bool} {m o lim:Nat} {p:List (Tr×Nat)} {x:Tr} {cs cs':Array Value} {pv':Value} {fs':List Fr} {p':List (Tr×Nat)} {x':Tr} {f:Fr} {ky:Nat} (h:DownIn X X' bk m o lim p x cs cs' pv' fs' p' x' f ky) (hl:m<f.lev) :
  FrOf X'.S bk (x',if bk then 0 else (kids x').length-1) f∧∃ c,(kids x')[if bk then 0 else (kids x').length-1]?=some c∧Den X'.S (childN bk f) c∧c.Gd∧c.lv<x'.lv:=by
 obtain ⟨i,en,h1,h2,h3⟩:=h.rule;have hk:2<=(kids x').length:=kids_two h.gd (by rw [lv_of h.lev];omega);have hfr:FrOf X'.S bk (x',if bk then 0 else (kids x').length-1) f:=by
  have:=FrOf.open_ (bk:=bk) h.ok.ok h.den h1 h2 h.lev (by omega);have e:f=⟨f.id,en.r,f.lev,wholeN en.r⟩:=by
   have hv:=h.hv;rw [h3] at hv;rw [← h3];cases f
   simp only at hv h3 ⊢;rw [h3,hv]
  rw [e];exact this
 obtain ⟨c,hc,hd⟩:=hfr.child h.ok.ok;exact ⟨hfr,c,hc,hd,(h.gd.kid (List.mem_of_getElem? hc)).1,(h.gd.kid (List.mem_of_getElem? hc)).2⟩
def DownRel (X:Px) (bk:Bool) (m b o lim:Nat) (ty:TypeId) (p:List (Tr×Nat)) (x:Tr) (cs:Array Value) (M:List Nat) (w:World) (lv:Nat) (v4:Value) (wr:World):Prop :=
 ∃ (X':Px) (cs':Array Value) (pv':Value) (fs':List Fr) (p':List (Tr×Nat)) (x':Tr) (f:Fr) (ky b4:Nat),v4=.pointer (some ⟨b4,0,none⟩)∧lv=x'.lv∧DownIn X X' bk m o lim p x cs cs' pv' fs' p' x' f ky ∧
  St w M [pA X',blk b (.cells cs' ty),rowsA encFr 265 8 pv' fs',blk b4 (.cells #[.int .i64 f.id,.int .i64 f.r.kind,.int .u8 f.r.letter,.int .i64 f.r.left,.int .i64 f.r.right,.int .i64 f.r.times,.int .i64 f.lev,.int .i64 f.hv] 265)] wr
attribute [local go_sem] StStep stAt stUpon in
theorem down_c {X:Px} {bk:Bool} {m b o lim id ky:Nat} {ty:TypeId} {p:List (Tr×Nat)} {x:Tr} {cs:Array Value} {pv:Value} {fs:List Fr} (hX:PxOk X) (he:EndAt cs o X.p bk pv id ky) (hd:Den X.S id x) (hg:x.Gd) (hp:PathOf X.S bk p fs) (hlim:lim<=1048576) (hr:fs.length+x.lv<=lim) (hm:m<9223372036854775808) (w:World) (h:(((pA X).sep ((blk b (.cells cs ty)).sep (rowsA encFr 265 8 pv fs))).sep deA).ho w) :
  Calls Tryz.prog 161 #[.pointer (some ⟨b,o,none⟩),.int .i64 m] w fun e w'=>∃ (X':Px) (cs':Array Value) (pv':Value) (fs':List Fr) (id':Nat),e=.returned (.tuple #[])∧X.Ext X'∧PxOk X'∧X'.S=X.S∧EndAt cs' o X.p bk pv' id' (downT bk m p x).2.key∧AlikeBut cs cs' o∧PathOf X'.S bk (downT bk m p x).1 fs'∧Den X'.S id' (downT bk m p x).2∧St w ((pA X).sep ((blk b (.cells cs ty)).sep (rowsA encFr 265 8 pv fs))).fp [pA X',blk b (.cells cs' ty),rowsA encFr 265 8 pv' fs'] w':=by
 rw [sep_ho] at h;obtain ⟨k1,k2,hdd⟩:=h;have H:=St.one k1;have HK:Ks w ((pA X).sep ((blk b (.cells cs ty)).sep (rowsA encFr 265 8 pv fs))).fp [deA]:=⟨by simpa using k2,by simpa using fun b hb hm=>hdd b hm hb⟩
 generalize ((pA X).sep ((blk b (.cells cs ty)).sep (rowsA encFr 265 8 pv fs))).fp=M at *;replace H:=H.sep;replace H:=(H.pick (.there .here)).sep;obtain ⟨i,en,hi,hx,ht⟩:=den_get hd;obtain ⟨a,ha⟩:=hg.1;have HOP:Hid (∀ w,((pA X).sep deA).ho w->((pA X).sep (blk b (.cells cs ty))).ho w->Calls Tryz.prog 158 #[.pointer (some ⟨b,o,none⟩)] w (PPost X (.agg #[.int .i64 id,.int .i64 en.r.kind,.int .u8 en.r.letter,.int .i64 en.r.left,.int .i64 en.r.right,.int .i64 en.r.times,.int .i64 a,.int .i64 (wholeN en.r:Nat)]) (pA X).fp w)):=zh fun w h1 h2=>open_c hX hd ha hi hx (fun w h=>arr_cell h he.c0) (fun w h=>arr_cell h he.c3) w h1 h2
 have HIN0:Hid (∀ X2:Px,X.Ext X2->PxOk X2->X2.S=X.S->DownIn X X2 bk m o lim p x cs cs pv fs p x ⟨id,en.r,a,wholeN en.r⟩ ky):=zh fun X2 e1 e2 e3=>⟨e1,e2,e3,he,.refl _ _,by rw [e3];exact hp,by rw [e3];exact hd,hg,ha,⟨i,en,hi,by rw [e3];exact hx,rfl⟩,rfl,rfl,hr⟩
 have HLIM:=zh hlim;clear k1 k2 hdd he hd hg hp hi hx ht ha hX hr;go_enter Tryz.func161,Tryz.ntmps161;go_wp2_with (first|refine sL ?_|(refine sS ?_;clear H;intros;rename_i H)|(go_at_call 158;with_reducible refine zm (HOP.out _ (H.sepK HK pk pk) (H.sepO pk pk)) ?_;rintro e wc ⟨X2,y1,y2,y3,rfl,hb⟩;have HY:=zh (za y1 (za y2 y3));clear y1 y2 y3;replace H:=zn ((H.pick pk).call hb);clear hb));rename_i b4 _ _;go_loopg [4] x.lv (fun lv v4 wr=>DownRel X bk m b o lim ty p x cs M w lv v4 wr);case atStart=>exact ⟨X2,cs,pv,fs,p,x,⟨id,en.r,a,wholeN en.r⟩,ky,b4,rfl,rfl,HIN0.out X2 HY.out.1 HY.out.2.1 HY.out.2.2,H.picks (.cons pk (.cons pk (.cons pk (.cons pk .nil))))⟩
 case round =>
  clear H HIN0 HOP HY;obtain ⟨X1,cs1,pv1,fs1,p1,x1,f,ky1,b4,rfl,rfl,hin,H⟩:=hrel;have HIN:=zh hin;have HSZ:Hid (o+5<=cs1.size):=zh hin.at_.sz;by_cases hlt:m<f.lev
  ·obtain ⟨hfr,c,hc,hdc,hcg,hclv⟩:=hin.fr hlt;have HFR:=zh hfr;have HCC:=zh hc;have HDC:=zh hdc;have HCG:=zh hcg;have d1:decide ((m:Int)<(f.lev:Int))=true:=(by simp;omega);clear hin hfr hc hdc hcg;go_wp2_with (first|refine sL ?_|(refine sS ?_;clear H;intros;rename_i H));replace H:St w M [rowsA encFr 265 8 pv1 fs1,pA X1,blk b (.cells cs1 ty),blk b4 (.cells #[.int .i64 f.id,.int .i64 f.r.kind,.int .u8 f.r.letter,.int .i64 f.r.left,.int .i64 f.r.right,.int .i64 f.r.times,.int .i64 f.lev,.int .i64 f.hv] 265)] _:=H.picks (.cons pk (.cons pk (.cons pk (.cons pk .nil))));refine wp_region_sgx 8 [⟨[],fun v _=>v=.pointer (some ⟨b,o,none⟩)⟩,⟨[],fun v _=>v=.pointer (some ⟨b,o,none⟩)⟩,⟨[1],fun v _=>v=.pointer (some ⟨b,o,none⟩)⟩,⟨[2],fun v _=>v=.pointer (some ⟨b,o+2,none⟩)⟩,⟨[3],fun v _=>v=pv1⟩,⟨[],fun v _=>v=.agg #[.int .i64 f.id,.int .i64 f.r.kind,.int .u8 f.r.letter,.int .i64 f.r.left,.int .i64 f.r.right,.int .i64 f.r.times,.int .i64 f.lev,.int .i64 f.hv]⟩,⟨[5],fun v _=>∃ bn:Nat,v=.slice (some ⟨bn,0,none⟩) 1 1⟩,⟨[4,6],fun _ _=>True⟩] [6,7] [[0,1,2],[0,1],[0,1],[0,1],[0,1],[0],[0],[1]] [fun _ wx=>St w M [rowsA encFr 265 8 pv1 fs1,pA X1,blk b (.cells cs1 ty),blk b4 (.cells #[.int .i64 f.id,.int .i64 f.r.kind,.int .u8 f.r.letter,.int .i64 f.r.left,.int .i64 f.r.right,.int .i64 f.r.times,.int .i64 f.lev,.int .i64 f.hv] 265)] wx,fun vals wx=>∃ bn:Nat,vals 6=.slice (some ⟨bn,0,none⟩) 1 1∧St w M [rowsA encFr 265 8 pv1 fs1,rowsA encFr 265 8 (.slice (some ⟨bn,0,none⟩) 1 1) [f],pA X1,blk b (.cells cs1 ty),blk b4 (.cells #[.int .i64 f.id,.int .i64 f.r.kind,.int .u8 f.r.letter,.int .i64 f.r.left,.int .i64 f.r.right,.int .i64 f.r.times,.int .i64 f.lev,.int .i64 f.hv] 265)] wx,fun vals wx=>St w M [rowsA encFr 265 8 (vals 7) (fs1++[f]),pA X1,blk b (.cells cs1 ty),blk b4 (.cells #[.int .i64 f.id,.int .i64 f.r.kind,.int .u8 f.r.letter,.int .i64 f.r.left,.int .i64 f.r.right,.int .i64 f.r.times,.int .i64 f.lev,.int .i64 f.hv] 265)] wx]
    [[],[],[(1,14)],[(2,15)],[(3,16)],[],[(5,18)],[(4,17),(6,19)]] [(0,13),(1,14),(2,15),(3,16),(4,17),(5,18),(6,19),(7,20)] (by kernel_rfl) (by kernel_rfl) H.drew ⟨⟨qo,qo,qo,trivial⟩,⟨qo,qo,trivial⟩,⟨qo,qo,trivial⟩,⟨qo,qo,trivial⟩,⟨?_,?_,trivial⟩,⟨ql,trivial⟩,⟨?_,trivial⟩,⟨?_,trivial⟩,trivial⟩ ?_
   ·intro vals wx hd HC;simp only [GF] at hd;have H:=HC;simp only [CA] at H;simp only [PS,hd];refine StStep.celC rfl rfl rfl rfl (arr_cell (H.get (A:=blk b (.cells cs1 ty)) pk) HIN.out.at_.c2) ⟨rfl,HC⟩
   ·intro vals wx hd HC;simp only [GF] at hd;have H:=HC;simp only [CA] at H;obtain ⟨bn,hv,H⟩:=H;simp only [PS,hd];refine StStep.celC rfl rfl rfl rfl (arr_cell (H.get (A:=blk b (.cells cs1 ty)) pk) HIN.out.at_.c2) ⟨rfl,HC⟩
   ·intro vals wx hd HC;simp only [GF] at hd;have H:=HC;simp only [CA] at H;simp only [PS,hd];clear HC;refine StStep.slice1 (enc:=encFr) H rfl rfl rfl rfl rfl rfl rfl rfl rfl f rfl encFr_len ?_;intro bn wz H;exact ⟨⟨bn,rfl⟩,bn,rfl,H.picks (.cons pk (.cons pk (.cons pk (.cons pk (.cons pk .nil)))))⟩
   ·intro vals wx hd HC;simp only [GF] at hd;have H:=HC;simp only [CA] at H;obtain ⟨bn,hv,H⟩:=H;simp only [PS,hd,hv];refine StStep.append (enc:=encFr) rfl rfl rfl rfl rfl (by decide) (by decide) rfl rfl H (H.get (A:=rowsA encFr 265 8 (.slice (some ⟨bn,0,none⟩) 1 1) [f]) pk) encFr_len encFr_one (by have:=HIN.out.room;have:=HLIM.out;simp;omega) ?_;intro v' wz H;exact ⟨trivial,H.picks (.cons pk (.cons pk (.cons pk (.cons pk .nil))))⟩
   intro vals wx hd HC;have h6:=hd.2.2.2.2.2.2.1;simp only [CA] at HC;have H:=HC;clear HC;simp only [GF] at hd;simp only [PS,hd];clear hd;obtain ⟨ad2,c2,e2,_⟩:=rowsA_shape (H.get (A:=rowsA encFr 265 8 (vals 7) (fs1++[f])) pk);simp only [e2] at H ⊢;clear e2;have hlen:(fs1++[f]).length=fs1.length+1:=(by simp);obtain ⟨n2,hn2⟩:∃ n2,(fs1++[f]).length=n2:=⟨_,rfl⟩
   simp only [hn2] at H ⊢;have hat2:=HIN.out.at_.setPath (.slice ad2 n2 c2);obtain ⟨cs2,hcs2⟩:∃ c,cs1.setIfInBounds (o+2) (.slice ad2 n2 c2)=c:=⟨_,rfl⟩
   have HCS2:=zh hcs2;rw [hcs2] at hat2;have HAT2:=zh hat2;have HSZ2:Hid (o+5<=cs2.size):=zh hat2.sz;have HN2:=zh hn2;clear hat2 hcs2 hn2 hlen;go_wp2_with (first|refine sL ?_|(refine sS ?_;clear H;intros;rename_i H)|((with_reducible refine isStore ?_);refine AtStore.cell H rfl rfl rfl rfl rfl (cellTy_size (isCellT_ok rfl)) (cs:=cs1) pk (by have:=HSZ.out;omega) HCS2.out ?_;clear H;intro _ H;simp only [Act.put,puA,puB,puC]));have HCH:Hid (∀ w,Calls Tryz.prog 160 #[.agg #[.int .i64 f.id,.int .i64 f.r.kind,.int .u8 f.r.letter,.int .i64 f.r.left,.int .i64 f.r.right,.int .i64 f.r.times,.int .i64 f.lev,.int .i64 f.hv],.bool bk] w fun e w'=>e=.returned (.int .i64 (childN bk f))∧St w [] [] w'):=zh fun w=>child_c f bk w
   obtain ⟨ci,hci⟩:∃ ci,childN bk f=ci:=⟨_,rfl⟩
   rw [hci] at HCH HDC;clear hci;refine wp_region_h H 7 [] [] (by kernel_rfl) (by kernel_rfl) ?_;apply Exists.intro;refine ⟨fun w1 hw1 HX=>?_,fun bs wr Hr=>?_⟩
   ·refine sG ?_;repeat (first|go_big_quiet_skip|refine sQ ?_|((with_reducible refine isQLoad ?_);(refine QtLoad.cel rfl rfl rfl rfl (fun y=>arr_cell ((HX y).get (A:=blk b (.cells cs2 ty)) pk) HAT2.out.c1) ?_;simp only [Act.put,puA,puB,puC]))|go_big_quiet_step ((go_at_call 160;with_reducible exact quiet_st_x (HCH.out _)))|go_big_quiet_step (fail))
    exact wpQuiet_nil rfl
   clear H;have H:=Hr;clear Hr;replace H:=sH H;refine sT ?_;have hat3:=HAT2.out.setId ci;obtain ⟨cs3,hcs3⟩:∃ c,cs2.setIfInBounds (o+3) (.int .i64 ci)=c:=⟨_,rfl⟩
   have HCS3:=zh hcs3;rw [hcs3] at hat3;have HAT3:=zh hat3;obtain ⟨i2,en2,hi2,hx2,ht2⟩:=den_get HDC.out;obtain ⟨a2,ha2⟩:=HCG.out.1;have HX2:=zh (za hi2 (za hx2 ha2));have HOP:Hid (∀ w,((pA X1).sep deA).ho w->((pA X1).sep (blk b (.cells cs3 ty))).ho w->Calls Tryz.prog 158 #[.pointer (some ⟨b,o,none⟩)] w (PPost X1 (.agg #[.int .i64 ci,.int .i64 en2.r.kind,.int .u8 en2.r.letter,.int .i64 en2.r.left,.int .i64 en2.r.right,.int .i64 en2.r.times,.int .i64 a2,.int .i64 (wholeN en2.r:Nat)]) (pA X1).fp w)):=zh fun w h1 h2=>open_c HIN.out.ok HDC.out HX2.out.2.2 HX2.out.1 HX2.out.2.1 (fun w h=>by rw [HIN.out.ext.p];exact arr_cell h HAT3.out.c0) (fun w h=>arr_cell h HAT3.out.c3) w h1 h2
   have hac3:AlikeBut cs cs3 o:=by
    have h1:=AlikeBut.set cs1 o (o+2) (.slice ad2 n2 c2) (by omega) (by omega);have h2:=AlikeBut.set cs2 o (o+3) (.int .i64 ci) (by omega) (by omega);rw [HCS2.out] at h1;rw [hcs3] at h2;exact (HIN.out.alike.trans h1).trans h2
   have HAC:=zh hac3;clear hat3 hcs3 hi2 hx2 ht2 ha2 hac3;go_wp2_with (first|refine sL ?_|(refine sS ?_;clear H;intros;rename_i H)|((with_reducible refine isStore ?_);refine AtStore.cell H rfl rfl rfl rfl rfl (cellTy_size (isCellT_ok rfl)) (cs:=cs2) pk (by have:=HSZ2.out;omega) HCS3.out ?_;clear H;intro _ H;simp only [Act.put,puA,puB,puC])|(go_at_call 158;with_reducible refine zm (HOP.out _ (H.sepK HK pk pk) (H.sepO pk pk)) ?_;rintro e wc ⟨X2,y1,y2,y3,rfl,hb⟩;have HY:=zh (za y1 (za y2 y3));clear y1 y2 y3;replace H:=zn ((H.pick pk).call hb);clear hb));go_roundg c.lv;case measure=>exact hclv
   case rel =>
    have hin:=HIN.out;have hy:=HY.out;exact ⟨X2,cs3,_,fs1++[f],_,c,⟨ci,en2.r,a2,wholeN en2.r⟩,ky1,_,rfl,rfl,⟨hin.ext.trans hy.1,hy.2.1,hy.2.2.trans hin.same,HAT3.out,HAC.out,(by rw [hy.2.2];exact ⟨fs1,f,rfl,HFR.out,hin.path⟩:PathOf X2.S bk ((x1,if bk then 0 else (kids x1).length-1)::p1) (fs1++[f])),by rw [hy.2.2];exact HDC.out,HCG.out,HX2.out.2.2,⟨i2,en2,HX2.out.1,by rw [hy.2.2];exact HX2.out.2.1,rfl⟩,rfl,(downT_step (by rw [lv_of hin.lev];exact hlt) HCC.out).symm.trans hin.way,by have:=hin.room;simp;omega⟩,H.picks (.cons pk (.cons pk (.cons pk (.cons pk .nil))))⟩
  ·have d1:decide ((m:Int)<(f.lev:Int))=false:=(by simp;omega);have hend:=downT_end (bk:=bk) (p:=p1) (t:=x1) (m:=m) (by rw [lv_of hin.lev];omega);have hway:=hin.way;rw [hend] at hway;obtain ⟨kk,hkk⟩:∃ kk,x1.key=kk:=⟨_,rfl⟩
   have HKK:=zh hkk;have HKY:Hid (∀ w,(pA X1).ho w->Calls Tryz.prog 174 #[.pointer (some ⟨X.p,0,none⟩)] w fun e w'=>e=.returned (.pointer (some ⟨X1.K.t,0,none⟩))∧w'=w):=zh fun w h=>by
    have:=keys_p w h;rwa [hin.ext.p] at this
   have HKE:Hid (∀ w,((pA X1).sep deA).ho w->Calls Tryz.prog 98 #[.pointer (some ⟨X1.K.t,0,none⟩),.int .i64 f.id] w (PPost X1 (.tuple #[.int .u64 kk,.nilIface]) (pA X1).fp w)):=zh fun w h=>by rw [← HKK.out];exact key_p hin.ok hin.den w h
   have HWAY:=zh hway;clear hin hend hway hkk;go_wp2_with (first|refine sL ?_|(refine sS ?_;clear H;intros;rename_i H));replace H:St w M [blk b (.cells cs1 ty),pA X1,rowsA encFr 265 8 pv1 fs1,blk b4 (.cells #[.int .i64 f.id,.int .i64 f.r.kind,.int .u8 f.r.letter,.int .i64 f.r.left,.int .i64 f.r.right,.int .i64 f.r.times,.int .i64 f.lev,.int .i64 f.hv] 265)] _:=H.picks (.cons pk (.cons pk (.cons pk (.cons pk .nil))));refine wp_region_sgx 17 [⟨[],fun v _=>v=.pointer (some ⟨b,o,none⟩)⟩,⟨[],fun v _=>v=.pointer (some ⟨b,o,none⟩)⟩,⟨[1],fun v _=>v=.pointer (some ⟨b,o,none⟩)⟩,⟨[2],fun v _=>v=.pointer (some ⟨b,o,none⟩)⟩,⟨[3],fun v _=>v=.pointer (some ⟨X.p,0,none⟩)⟩,⟨[4],fun v _=>v=.pointer (some ⟨X1.K.t,0,none⟩)⟩,⟨[],fun v _=>v=.pointer (some ⟨b,o,none⟩)⟩,⟨[6],fun v _=>v=.pointer (some ⟨b,o,none⟩)⟩,⟨[7],fun v _=>v=.pointer (some ⟨b,o+3,none⟩)⟩,⟨[8],fun v _=>v=.int .i64 f.id⟩,⟨[5,9],fun v _=>v=.tuple #[.int .u64 kk,.nilIface]⟩,⟨[10],fun v _=>v=.tuple #[.int .u64 kk,.nilIface]⟩,⟨[11],fun v _=>v=.int .u64 kk⟩,⟨[11],fun v _=>v=.nilIface⟩,⟨[0],fun v _=>v=.pointer (some ⟨b,o,none⟩)⟩,⟨[14],fun v _=>v=.pointer (some ⟨b,o+4,none⟩)⟩,⟨[12,15],fun _ _=>True⟩] [10,16] [[0,1],[0],[0],[0],[0],[0],[0],[0],[0],[0],[0],[1],[1],[1,2],[1],[1],[1]] [fun _ wx=>St w M [blk b (.cells cs1 ty),pA X1,rowsA encFr 265 8 pv1 fs1,blk b4 (.cells #[.int .i64 f.id,.int .i64 f.r.kind,.int .u8 f.r.letter,.int .i64 f.r.left,.int .i64 f.r.right,.int .i64 f.r.times,.int .i64 f.lev,.int .i64 f.hv] 265)] wx,fun _ wx=>∃ X2:Px,(X1.Ext X2∧PxOk X2∧X2.S=X1.S)∧St w M [blk b (.cells cs1 ty),pA X2,rowsA encFr 265 8 pv1 fs1,blk b4 (.cells #[.int .i64 f.id,.int .i64 f.r.kind,.int .u8 f.r.letter,.int .i64 f.r.left,.int .i64 f.r.right,.int .i64 f.r.times,.int .i64 f.lev,.int .i64 f.hv] 265)] wx,fun _ wx=>∃ X2:Px,(X1.Ext X2∧PxOk X2∧X2.S=X1.S)∧St w M [blk b (.cells (cs1.setIfInBounds (o+4) (.int .u64 kk)) ty),pA X2,rowsA encFr 265 8 pv1 fs1,blk b4 (.cells #[.int .i64 f.id,.int .i64 f.r.kind,.int .u8 f.r.letter,.int .i64 f.r.left,.int .i64 f.r.right,.int .i64 f.r.times,.int .i64 f.lev,.int .i64 f.hv] 265)] wx]
    [[],[],[(1,35)],[(2,36)],[(3,37)],[(4,38)],[],[(6,40)],[(7,41)],[(8,42)],[(5,39),(9,43)],[(10,44)],[(11,33)],[(11,33)],[(0,34)],[(14,47)],[(12,45),(15,48)]] [(0,34),(1,35),(2,36),(3,37),(4,38),(5,39),(6,40),(7,41),(8,42),(9,43),(10,44),(11,33),(12,45),(13,46),(14,47),(15,48)] (by kernel_rfl) (by kernel_rfl) H.drew ⟨⟨qo,qo,trivial⟩,⟨qo,trivial⟩,⟨qo,trivial⟩,⟨qo,trivial⟩,⟨?_,trivial⟩,⟨?_,trivial⟩,⟨qo,trivial⟩,⟨qo,trivial⟩,⟨qo,trivial⟩,⟨?_,trivial⟩,⟨?_,trivial⟩,⟨qo,trivial⟩,⟨qo,trivial⟩,⟨qo,qo,trivial⟩,⟨qo,trivial⟩,⟨qo,trivial⟩,⟨?_,trivial⟩,trivial⟩ ?_
   ·intro vals wx hd HC;simp only [GF] at hd;have H:=HC;simp only [CA] at H;simp only [PS,hd];refine StStep.celC rfl rfl rfl rfl (arr_cell (H.get (A:=blk b (.cells cs1 ty)) pk) HIN.out.at_.c0) ⟨rfl,HC⟩
   ·intro vals wx hd HC;simp only [GF] at hd;have h4:=hd;clear hd;have H:=HC;simp only [CA] at H;simp only [PS,h4];clear h4;go_simp;with_reducible refine zm (HKY.out _ (H.get pk)) ?_
    rintro e wc ⟨rfl,rfl⟩;first|exact ⟨_,rfl,rfl,HC⟩|exact ⟨_,rfl,HC⟩
   ·intro vals wx hd HC;simp only [GF] at hd;have H:=HC;simp only [CA] at H;simp only [PS,hd];refine StStep.celC rfl rfl rfl rfl (arr_cell (H.get (A:=blk b (.cells cs1 ty)) pk) HIN.out.at_.c3) ⟨rfl,HC⟩
   ·intro vals wx hd HC;simp only [GF] at hd;obtain ⟨h5,h9⟩:=hd;have H:=HC;simp only [CA] at H;simp only [PS,h5,h9];clear h5 h9 HC;go_simp;with_reducible refine zm (HKE.out _ (H.sepK HK pk pk)) ?_
    rintro e wc ⟨X2,y1,y2,y3,rfl,hb⟩;have H2:=(H.pick pk).call hb;simp only [List.cons_append,List.nil_append] at H2;exact ⟨_,rfl,rfl,X2,⟨y1,y2,y3⟩,H2.picks (.cons pk (.cons pk (.cons pk (.cons pk .nil))))⟩
   ·intro vals wx hd HC;simp only [GF] at hd;have H:=HC;simp only [CA] at H;obtain ⟨X2,hX2,H⟩:=H;simp only [PS,hd];refine StStep.storeC rfl rfl rfl rfl rfl rfl H (by have:=HSZ.out;omega) ?_;intro wz H;exact ⟨trivial,X2,hX2,H⟩
   intro vals wx hd HC;simp only [CA] at HC;obtain ⟨X2,hX2,H⟩:=HC;simp only [GF] at hd;simp only [PS,hd];clear hd;have HY:=zh hX2;clear hX2;go_wp2_with (first|refine sL ?_|(refine sS ?_;clear H;intros;rename_i H));refine nR ?_;have hin:=HIN.out;have hw:=HWAY.out;rw [← hw];have hk5:=hin.at_.setKey kk;exact ⟨X2,_,pv1,fs1,f.id,rfl,hin.ext.trans HY.out.1,HY.out.2.1,HY.out.2.2.trans hin.same,by rw [HKK.out];exact hk5,hin.alike.trans (AlikeBut.set cs1 o (o+4) (.int .u64 kk) (by omega) (by omega)),by rw [HY.out.2.2];exact hin.path,by rw [HY.out.2.2];exact hin.den,H.picks (.cons pk (.cons pk (.cons pk .nil)))⟩
end
section
open Go.RowKit Go.Maps
attribute [local go_sem] InGr
theorem parent_none {b o m c:Nat} {ad:Option Addr} {Y:As} (hc:∀ w,Y.ho w->w.cell? ⟨b,o+2,none⟩=some (.slice ad 0 c)) (w:World) (h:Y.ho w) :
  Calls Tryz.prog 172 #[.pointer (some ⟨b,o,none⟩),.int .i64 m] w fun e w'=>e=.returned (.pointer none)∧w'=w:=by
 have HC:=zh (hc w h);clear hc h;go_enter Tryz.func172,Tryz.ntmps172;go_wp2_with (first|refine sL ?_|(refine sS ?_;clear H;intros;rename_i H)|((with_reducible refine isLoad ?_);refine AtLoad.cel rfl rfl rfl rfl HC.out ?_;simp only [Act.put,puA,puB,puC]));go_ret;exact ⟨rfl,rfl⟩
theorem parent_some {b o m c g n:Nat} {fs:List Fr} {f:Fr} {Y:As} (hc:∀ w,Y.ho w->w.cell? ⟨b,o+2,none⟩=some (.slice (some ⟨g,0,none⟩) (n+1) c)) (hn:n<=1048576) (hl:∀ w,Y.ho w->w.cell? ⟨g,n*8+6,none⟩=some (.int .i64 f.lev)) (w:World) (h:Y.ho w) :
  Calls Tryz.prog 172 #[.pointer (some ⟨b,o,none⟩),.int .i64 m] w fun e w'=>e=.returned (if f.lev=m then .pointer (some ⟨g,n*8,none⟩) else .pointer none)∧w'=w:=by
 have HC:=zh (hc w h);have HL:=zh (hl w h);clear hc h hl;by_cases hm:f.lev=m
 ·rw [if_pos hm];have d1:((f.lev:Int)==(m:Int))=true:=(by simp;omega);clear hm;go_enter Tryz.func172,Tryz.ntmps172;go_wp2_with (first|refine sL ?_|(refine sS ?_;clear H;intros;rename_i H)|((with_reducible refine isLoad ?_);first|(refine AtLoad.cel rfl rfl rfl rfl HC.out ?_;simp only [Act.put,puA,puB,puC])|(refine AtLoad.cel rfl rfl rfl rfl HL.out ?_;simp only [Act.put,puA,puB,puC])));go_ret;exact ⟨rfl,rfl⟩
 ·rw [if_neg hm];have d1:((f.lev:Int)==(m:Int))=false:=(by simp;omega);clear hm;go_enter Tryz.func172,Tryz.ntmps172;go_wp2_with (first|refine sL ?_|(refine sS ?_;clear H;intros;rename_i H)|((with_reducible refine isLoad ?_);first|(refine AtLoad.cel rfl rfl rfl rfl HC.out ?_;simp only [Act.put,puA,puB,puC])|(refine AtLoad.cel rfl rfl rfl rfl HL.out ?_;simp only [Act.put,puA,puB,puC])));go_ret;exact ⟨rfl,rfl⟩
end
section
abbrev EndP:=List (Tr×Nat)×Option Tr
def topAt (lv:Nat):List (Tr×Nat)->Option (Tr×Nat)
 |[]=>none
 |q::_=>if q.1.lv=lv then some q else none
def hvT (bk:Bool) (q:Tr×Nat):Nat:=if bk then (kids q.1).length-q.2 else q.2+1
def runT (bk:Bool) (lv:Nat) (p:List (Tr×Nat)):Nat×Bool:=match topAt lv p with|none=>(1,false)|some q=>(hvT bk q,decide (hvT bk q<(kids q.1).length))
def headT (M:List It) (e:EndP):Option Tr:=match M with|i::_=>some i.x|[]=>e.2
def lastT (M:List It) (d:EndP):Option Tr:=match M.getLast? with|some i=>some i.x|none=>d.2
theorem topAt_none {m:Nat} {p:List (Tr×Nat)} (h:topAt (m+1) p=none):TopN m p:=by
 intro t j p' e;subst e;simp only [topAt] at h;split at h
 ·cases h
 ·assumption
theorem topAt_some {lv:Nat} {p:List (Tr×Nat)} {q:Tr×Nat} (h:topAt lv p=some q):∃ p',p=q::p'∧q.1.lv=lv:=by
 cases p with
 |nil=>cases h
 |cons r p =>
  simp only [topAt] at h;split at h
  ·injection h with h;subst h;exact ⟨p,rfl,by assumption⟩
  ·cases h
theorem step_odd {m:Nat} (he:m%2=0) (l:List Tr):stepP (m+1) l=runs l:=by unfold stepP;rw [if_pos (by omega)]
theorem step_even {m:Nat} (ho:m%2=1) (l:List Tr):stepP (m+1) l=pairsF (fits (m+1)) l:=by unfold stepP;rw [if_neg (by omega)]
structure LOk (a:Tr) (m:Nat) (L R:List Tr) (M:List It) (d1:EndP) (M1:List It) (P:List Tr):Prop where
 lay:∃ Q,a.lay (m+1)=P++Q
 end_:EndL a m d1 (P.flatMap (Tr.lay m))
 up:EndL a (m+1) (upT false (m+1) d1) P
 mv:∃ Y,L=P.flatMap (Tr.lay m)++Y∧expI M1=Y++expI M
 cut:stepP (m+1) (P.flatMap (Tr.lay m)++(expI M1++R))=P++stepP (m+1) (expI M1++R)
structure ROk (b:Tr) (m:Nat) (R:List Tr) (M:List It) (e1:EndP) (M1:List It) (Q:List Tr):Prop where
 lay:∃ P,b.lay (m+1)=P++Q
 end_:EndR b m e1 (Q.flatMap (Tr.lay m))
 up:EndR b (m+1) (upT true (m+1) e1) Q
 mv:∃ Y,R=Y++Q.flatMap (Tr.lay m)∧expI M1=expI M++Y
 cut:stepP (m+1) (expI M1++Q.flatMap (Tr.lay m))=stepP (m+1) (expI M1)++Q
theorem LOk.none (a:Tr) (m:Nat) (R:List Tr) (M:List It):LOk a m [] R M ([],Option.none) M [] :=
 ⟨⟨_,(List.nil_append _).symm⟩,⟨rfl,rfl⟩,⟨rfl,rfl⟩,⟨[],by simp,by simp⟩,by simp⟩
theorem ROk.none (b:Tr) (m:Nat) (M:List It):ROk b m [] M ([],Option.none) M [] :=
 ⟨⟨_,(List.append_nil _).symm⟩,⟨rfl,rfl⟩,⟨rfl,rfl⟩,⟨[],by simp,by simp⟩,by simp⟩
def gRunL (lv:Nat) (d e:EndP) (M:List It):EndP×List It:=match d.2 with
 |none=>(d,M)
 |some x=>if (runT false lv d.1).2=true∨headT M e=some x then (dropT false (lv-1) (runT false lv d.1).1 d.1,⟨x,none,(runT false lv d.1).1⟩::M) else (d,M)
def gRunR (lv:Nat) (d e:EndP) (M:List It):EndP×List It:=match e.2 with
 |none=>(e,M)
 |some x=>if (runT true lv e.1).2=true∨lastT M d=some x then (dropT true (lv-1) (runT true lv e.1).1 e.1,M++[⟨x,none,(runT true lv e.1).1⟩]) else (e,M)
section
variable {a b:Tr} {m:Nat} {d e:EndP} {M:List It} {L R:List Tr}
theorem gRunL_ok (he:m%2=0) (hc:Canon a) (hd:EndL a m d L) (hh:∀ y,(expI M++R).head?=some y->headT M e=some y):∃ P,LOk a m L R M (gRunL (m+1) d e M).1 (gRunL (m+1) d e M).2 P:=by
 obtain ⟨p,o⟩:=d;cases o with
 |none =>
  obtain ⟨rfl,rfl⟩:=hd;exact ⟨[],LOk.none a m R M⟩
 |some x =>
  have hd:EdL a m p x L:=hd;have hD:EndL a m (p,some x) L:=hd;unfold gRunL;simp only [Nat.add_sub_cancel];by_cases hmv:(runT false (m+1) p).2=true∨headT M e=some x
  ·rw [if_pos hmv];cases ht:topAt (m+1) p with
   |none =>
    have hr:runT false (m+1) p=(1,false):=(by simp [runT,ht]);rw [hr];obtain ⟨P,Q,h1,h2,h3,h4⟩:=rlMoveN he hc hd (topAt_none ht) (expI M++R);have hdr:=dropL (m:=m) hc.gd p x hd.zip hd.above;rw [h2] at hdr h3 h4;exact ⟨P,⟨Q,h1⟩,hdr,upL hc h1 hdr,⟨[x],h3,by simp [expI_cons,It.exp]⟩,by rw [step_odd he,step_odd he];simpa [expI_cons,It.exp] using h4⟩
   |some q =>
    obtain ⟨p',rfl,hq⟩:=topAt_some ht;obtain ⟨t,j⟩:=q;have hr:(runT false (m+1) ((t,j)::p')).1=j+1:=(by simp [runT,ht,hvT]);rw [hr];obtain ⟨P,Q,k,_,h1,h2,h3,h4⟩:=rlMoveT he hc hd hq (expI M++R);have hdr:=dropL (m:=m) hc.gd p' t hd.zip.tail.1 fun f hf=>hd.above f (by simp [hf])
    have hdt:dropT false m (j+1) ((t,j)::p')=dropT false m 1 p':=by
     simp only [dropT,Bool.false_eq_true,if_false];rw [if_neg (by omega)]
    rw [hdt];rw [h2] at hdr h3 h4;exact ⟨P,⟨Q,h1⟩,hdr,upL hc h1 hdr,⟨_,h3,by simp [expI_cons,It.exp]⟩,by rw [step_odd he,step_odd he];simpa [expI_cons,It.exp] using h4⟩
  ·rw [if_neg hmv];have hn1:¬ (runT false (m+1) p).2=true:=fun h=>hmv (.inl h)
   have hn2:¬ headT M e=some x:=fun h=>hmv (.inr h)
   have hw:∃ P Q,a.lay (m+1)=P++Q∧L=P.flatMap (Tr.lay m):=by
    cases ht:topAt (m+1) p with
    |none=>exact rlWholeN hc hd (topAt_none ht)
    |some q =>
     obtain ⟨p',rfl,hq⟩:=topAt_some ht;obtain ⟨t,j⟩:=q;refine rlWholeT hc hd hq ?_;have hlt:=gelt hd.zip.tail.2;simp [runT,ht,hvT] at hn1;omega
   obtain ⟨P,Q,h1,h2⟩:=hw;refine ⟨P,⟨Q,h1⟩,by rw [← h2];exact hD,upL hc h1 (by rw [← h2];exact hD),⟨[],by simpa using h2,by simp⟩,?_⟩;rw [step_odd he,step_odd he];refine rlKeep he hc h1 _ fun z y hz hy=>?_
   rw [← h2,hd.eq] at hz;simp at hz;subst hz;intro hxy;subst hxy;exact hn2 (hh _ hy)
theorem gRunR_ok (he:m%2=0) (hc:Canon b) (hd:EndR b m e R) (hl:∀ z,(expI M).getLast?=some z->lastT M d=some z):∃ Q,ROk b m R M (gRunR (m+1) d e M).1 (gRunR (m+1) d e M).2 Q:=by
 obtain ⟨p,o⟩:=e;cases o with
 |none =>
  obtain ⟨rfl,rfl⟩:=hd;exact ⟨[],ROk.none b m M⟩
 |some x =>
  have hd:EdR b m p x R:=hd;have hD:EndR b m (p,some x) R:=hd;unfold gRunR;simp only [Nat.add_sub_cancel];by_cases hmv:(runT true (m+1) p).2=true∨lastT M d=some x
  ·rw [if_pos hmv];cases ht:topAt (m+1) p with
   |none =>
    have hr:runT true (m+1) p=(1,false):=(by simp [runT,ht]);rw [hr];obtain ⟨P,Q,h1,h2,h4⟩:=rrMoveN he hc hd (topAt_none ht);have hdr:=dropR (m:=m) hc.gd p x hd.zip hd.above;have h3:=hd.eq;rw [h2] at hdr h3 h4;have e1:expI (M++[⟨x,none,1⟩])=expI M++[x]:=(by simp [expI_append,expI_cons,expI_nil,It.exp]);refine ⟨Q,⟨P,h1⟩,hdr,upR hc h1 hdr,⟨[x],by simpa using h3,e1⟩,?_⟩;rw [step_odd he,step_odd he];refine rr_cut he hc h1 _ fun z y hz hy=>?_
    rw [e1] at hz;simp at hz;subst hz;exact h4 y hy
   |some q =>
    obtain ⟨p',rfl,hq⟩:=topAt_some ht;obtain ⟨t,j⟩:=q;obtain ⟨P,Q,k,rfl,hjk,h1,h2,h3,h4⟩:=rrMoveT he hc hd hq;have hr:(runT true (m+1) ((Tr.pow x k,j)::p')).1=k-j:=(by simp [runT,ht,hvT,kids]);rw [hr];have hdr:=dropR (m:=m) hc.gd p' _ hd.zip.tail.1 fun f hf=>hd.above f (by simp [hf])
    have hdt:dropT true m (k-j) ((Tr.pow x k,j)::p')=dropT true m 1 p':=by
     simp only [dropT,if_true,kids,List.length_replicate];rw [if_neg (by omega)]
    rw [hdt];rw [h2] at hdr h3 h4;have e1:expI (M++[⟨x,none,k-j⟩])=expI M++List.replicate (k-j) x:=(by simp [expI_append,expI_cons,expI_nil,It.exp]);refine ⟨Q,⟨P,h1⟩,hdr,upR hc h1 hdr,⟨_,h3,e1⟩,?_⟩;rw [step_odd he,step_odd he];refine rr_cut he hc h1 _ fun z y hz hy=>?_
    rw [e1] at hz;obtain ⟨n,hn⟩:=Nat.exists_eq_succ_of_ne_zero (show k-j≠0 by omega);rw [hn,List.replicate_succ',← List.append_assoc] at hz;simp at hz;subst hz;exact h4 y hy
  ·rw [if_neg hmv];have hn1:¬ (runT true (m+1) p).2=true:=fun h=>hmv (.inl h)
   have hn2:¬ lastT M d=some x:=fun h=>hmv (.inr h)
   have hw:∃ P Q,b.lay (m+1)=P++Q∧R=Q.flatMap (Tr.lay m):=by
    cases ht:topAt (m+1) p with
    |none=>exact grKeepN hc hd (topAt_none ht)
    |some q =>
     obtain ⟨p',rfl,hq⟩:=topAt_some ht;obtain ⟨t,j⟩:=q;have hlt:=gelt hd.zip.tail.2;have hj:j=0:=by
      simp [runT,ht,hvT] at hn1;omega
     subst hj;exact grKeepT hc hd hq
   obtain ⟨P,Q,h1,h2⟩:=hw;refine ⟨Q,⟨P,h1⟩,by rw [← h2];exact hD,upR hc h1 (by rw [← h2];exact hD),⟨[],by simpa using h2,by simp⟩,?_⟩;rw [step_odd he,step_odd he];refine rr_cut he hc h1 _ fun z y hz hy=>?_
   rw [← h2,hd.eq] at hy;simp at hy;subst hy;intro hxy;subst hxy;exact hn2 (hl _ hz)
end
def keepP (bk:Bool) (lv:Nat) (p:List (Tr×Nat)) (x:Tr) (h:Option Tr):Bool:=match topAt lv p with
 |some q=>decide (hvT bk q=2)
 |none=>match h with|some y=>!(if bk then fits lv y x else fits lv x y)|none=>true
def gPairL (lv:Nat) (d e:EndP) (M:List It):EndP×List It:=match d.2 with
 |none=>(d,M)
 |some x=>if keepP false lv d.1 x (headT M e)=true then (d,M) else (dropT false (lv-1) 1 d.1,⟨x,none,1⟩::M)
def gPairR (lv:Nat) (d e:EndP) (M:List It):EndP×List It:=match e.2 with
 |none=>(e,M)
 |some x=>if keepP true lv e.1 x (lastT M d)=true then (e,M) else (dropT true (lv-1) 1 e.1,M++[⟨x,none,1⟩])
section
variable {a b:Tr} {m:Nat} {d e:EndP} {M:List It} {L R:List Tr}
theorem gPairL_ok (ho:m%2=1) (hc:Canon a) (hd:EndL a m d L) (hh:∀ y,(expI M++R).head?=some y->headT M e=some y):∃ P,LOk a m L R M (gPairL (m+1) d e M).1 (gPairL (m+1) d e M).2 P:=by
 obtain ⟨p,o⟩:=d;cases o with
 |none =>
  obtain ⟨rfl,rfl⟩:=hd;exact ⟨[],LOk.none a m R M⟩
 |some x =>
  have hd:EdL a m p x L:=hd;have hD:EndL a m (p,some x) L:=hd;unfold gPairL;simp only [Nat.add_sub_cancel];have keep:(∃ P Q,a.lay (m+1)=P++Q∧L=P.flatMap (Tr.lay m)∧pairsF (fits (m+1)) (L++(expI M++R))=P++pairsF (fits (m+1)) (expI M++R))->∃ P,LOk a m L R M (p,some x) M P:=by
   rintro ⟨P,Q,h1,h2,h3⟩;refine ⟨P,⟨Q,h1⟩,by rw [← h2];exact hD,upL hc h1 (by rw [← h2];exact hD),⟨[],by simpa using h2,by simp⟩,?_⟩;rw [step_even ho,step_even ho,← h2];exact h3
  have move:(∃ P Q,a.lay (m+1)=P++Q∧before m p=P.flatMap (Tr.lay m)∧L=before m p++[x]∧pairsF (fits (m+1)) (before m p++x::(expI M++R))=P++pairsF (fits (m+1)) (x::(expI M++R)))->∃ P,LOk a m L R M (dropT false m 1 p) (⟨x,none,1⟩::M) P:=by
   rintro ⟨P,Q,h1,h2,h3,h4⟩;have hdr:=dropL (m:=m) hc.gd p x hd.zip hd.above;rw [h2] at hdr h3 h4;exact ⟨P,⟨Q,h1⟩,hdr,upL hc h1 hdr,⟨[x],h3,by simp [expI_cons,It.exp]⟩,by rw [step_even ho,step_even ho];simpa [expI_cons,It.exp] using h4⟩
  cases ht:topAt (m+1) p with
  |none =>
   by_cases hk:keepP false (m+1) p x (headT M e)=true
   ·rw [if_pos hk];refine keep (glKeepN ho hc hd (topAt_none ht) _ fun y hy=>?_);unfold keepP at hk;simp only [ht,hh y hy] at hk;simpa using hk
   ·rw [if_neg hk];exact move (glMoveN ho hc hd (topAt_none ht) _)
  |some q =>
   obtain ⟨p',rfl,hq⟩:=topAt_some ht;obtain ⟨t,j⟩:=q;have hlt:=gelt hd.zip.tail.2;obtain ⟨u,v,rfl,_⟩:=even_pair (hd.zip.tail.1.gd hc.gd).1 hq ho;simp only [kids,List.length_cons,List.length_nil] at hlt;by_cases hk:keepP false (m+1) ((Tr.pair u v,j)::p') x (headT M e)=true
   ·rw [if_pos hk];simp [keepP,ht,hvT] at hk;exact keep (glKeepT ho hc hd hq (by omega) _)
   ·rw [if_neg hk];simp [keepP,ht,hvT] at hk;obtain rfl:j=0:=by omega
    exact move (glMoveT ho hc hd hq _)
theorem gPairR_ok (ho:m%2=1) (hnt:isTie (m+1)=false) (hc:Canon b) (hd:EndR b m e R) (hl:∀ z,(expI M).getLast?=some z->lastT M d=some z):∃ Q,ROk b m R M (gPairR (m+1) d e M).1 (gPairR (m+1) d e M).2 Q:=by
 obtain ⟨p,o⟩:=e;cases o with
 |none =>
  obtain ⟨rfl,rfl⟩:=hd;exact ⟨[],ROk.none b m M⟩
 |some x =>
  have hd:EdR b m p x R:=hd;have hD:EndR b m (p,some x) R:=hd;unfold gPairR;simp only [Nat.add_sub_cancel];have keep:(∃ P Q,b.lay (m+1)=P++Q∧R=Q.flatMap (Tr.lay m))->(∀ z,(expI M).getLast?=some z->fits (m+1) z x=false)->∃ Q,ROk b m R M (p,some x) M Q:=by
   rintro ⟨P,Q,h1,h2⟩ hf;refine ⟨Q,⟨P,h1⟩,by rw [← h2];exact hD,upR hc h1 (by rw [← h2];exact hD),⟨[],by simpa using h2,by simp⟩,?_⟩;rw [step_even ho,step_even ho];refine gr_cut ho hc h1 _ fun z y hz hy=>?_
   rw [← h2,hd.eq] at hy;simp at hy;subst hy;exact hf z hz
  have move:(∃ P Q,b.lay (m+1)=P++Q∧tl m p=Q.flatMap (Tr.lay m)∧∀ y,(tl m p).head?=some y->fits (m+1) x y=false)->∃ Q,ROk b m R M (dropT true m 1 p) (M++[⟨x,none,1⟩]) Q:=by
   rintro ⟨P,Q,h1,h2,h4⟩;have hdr:=dropR (m:=m) hc.gd p x hd.zip hd.above;have h3:=hd.eq;rw [h2] at hdr h3 h4;have e1:expI (M++[⟨x,none,1⟩])=expI M++[x]:=(by simp [expI_append,expI_cons,expI_nil,It.exp]);refine ⟨Q,⟨P,h1⟩,hdr,upR hc h1 hdr,⟨[x],by simpa using h3,e1⟩,?_⟩;rw [step_even ho,step_even ho];refine gr_cut ho hc h1 _ fun z y hz hy=>?_
   rw [e1] at hz;simp at hz;subst hz;exact h4 y hy
  cases ht:topAt (m+1) p with
  |none =>
   by_cases hk:keepP true (m+1) p x (lastT M d)=true
   ·rw [if_pos hk];refine keep (grKeepN hc hd (topAt_none ht)) fun z hz=>?_
    unfold keepP at hk;simp only [ht,hl z hz] at hk;simpa using hk
   ·rw [if_neg hk];exact move (grMoveN ho hc hd (topAt_none ht))
  |some q =>
   obtain ⟨p',rfl,hq⟩:=topAt_some ht;obtain ⟨t,j⟩:=q;have hx:=hd.zip.tail.2;have hlt:=gelt hx;obtain ⟨u,v,rfl,hf⟩:=even_pair (hd.zip.tail.1.gd hc.gd).1 hq ho;simp only [kids,List.length_cons,List.length_nil] at hlt;by_cases hk:keepP true (m+1) ((Tr.pair u v,j)::p') x (lastT M d)=true
   ·rw [if_pos hk];simp [keepP,ht,hvT,kids] at hk;obtain rfl:j=0:=by omega
    refine keep (grKeepT hc hd hq) fun z hz=>?_
    obtain rfl:u=x:=by simpa [kids] using hx
    exact (fits_nontie hnt hf z).2
   ·rw [if_neg hk];simp [keepP,ht,hvT,kids] at hk;obtain ⟨P,Q,h1,h2,u',e1,hf'⟩:=grMoveT ho hc hd hq (by omega);exact move ⟨P,Q,h1,h2,fun y _=>(fits_nontie hnt hf' y).1⟩
end
end
section
def sndT:Tr->Option Tr
 |.pair _ v=>some v
 |_=>none
def strStep (lv:Nat) (p:List (Tr×Nat)) (x:Tr) (M:List It):EndP×List It:=match topAt lv p with
 |some q=>if hvT true q=2 then (match topAt (lv+1) p.tail with
   |some q2=>(dropT true (lv-1) (hvT true q2) p.tail,M++[⟨x,sndT q.1,hvT true q2⟩])
   |none=>(dropT true (lv-1) 1 p.tail,M++[⟨x,sndT q.1,1⟩]))
  else (dropT true (lv-1) 1 p,M++[⟨x,none,1⟩])
 |none=>(dropT true (lv-1) 1 p,M++[⟨x,none,1⟩])
inductive Strs (lv ky:Nat) (e0:EndP) (M0:List It):EndP->List It->Prop
 |zero:Strs lv ky e0 M0 e0 M0
 |step {p:List (Tr×Nat)} {x:Tr} {M:List It}:Strs lv ky e0 M0 (p,some x) M->x.key=ky->Strs lv ky e0 M0 (strStep lv p x M).1 (strStep lv p x M).2
def strKeep (lv:Nat) (p:List (Tr×Nat)) (x:Tr) (M:List It):Bool:=(match topAt lv p with|some q=>decide (hvT true q=2)|none=>true)&&(match M.getLast? with|some i=>decide (i.x.key≠x.key)|none=>true)
inductive GStr (lv:Nat) (e:EndP) (M:List It):EndP->List It->Prop
 |none:e.2=none->GStr lv e M e M
 |keep {p:List (Tr×Nat)} {x:Tr}:e=(p,some x)->strKeep lv p x M=true->GStr lv e M e M
 |go {p:List (Tr×Nat)} {x:Tr} {e':EndP} {M':List It}:e=(p,some x)->strKeep lv p x M=false->Strs lv x.key e M e' M'->(∀ y,e'.2=some y->y.key≠x.key)->GStr lv e M e' M'
def TieI (i:It):Prop:=1<=i.n∧((i.nx=none∧i.n=1)∨∃ y,i.nx=some y∧i.x.key=y.key)
def Tie (l:List It):Prop:=∀ i∈l,TieI i
theorem One.tie {l:List It} (h:One l):Tie l:=fun i hi=>⟨by have:=(h i hi).2;omega,.inl (h i hi)⟩
theorem Tie.snoc {l:List It} {i:It} (h:Tie l) (hi:TieI i):Tie (l++[i]):=fun j hj=>by
 rcases List.mem_append.1 hj with hj|hj
 ·exact h j hj
 ·simp at hj;subst hj;exact hi
theorem exp_one (x:Tr):It.exp ⟨x,none,1⟩=[x]:=rfl
theorem expI_snoc (M:List It) (i:It):expI (M++[i])=expI M++i.exp:=by simp [expI_append,expI_cons,expI_nil]
theorem turn_last (x v:Tr) (k:Nat) (h:1<=k):∃ l,(List.replicate k [x,v]).flatten=l++[v]:=by
 obtain ⟨n,rfl⟩:=Nat.exists_eq_succ_of_ne_zero (show k≠0 by omega);rw [List.replicate_succ'];exact ⟨(List.replicate n [x,v]).flatten++[x],by simp⟩
section
variable {b:Tr} {m:Nat} {e0 e e':EndP} {M0 M M':List It} {R R0:List Tr} {ky:Nat}
theorem strs_inv (ho:m%2=1) (htie:isTie (m+1)=true) (hc:Canon b) (hd:EndR b m e0 R0) (hM0:Tie M0) (h:Strs (m+1) ky e0 M0 e M) :
  ∃ R Y,EndR b m e R∧R0=Y++R∧expI M=expI M0++Y∧Tie M∧((M=M0∧e=e0)∨((∃ P Q,b.lay (m+1)=P++Q∧R=Q.flatMap (Tr.lay m))∧∃ z,(expI M).getLast?=some z∧z.key=ky)):=by
 induction h with
 |zero=>exact ⟨R0,[],hd,rfl,by simp,hM0,.inl ⟨rfl,rfl⟩⟩
 |@step p x M hs hk ih =>
  obtain ⟨R,Y,h1,h2,h3,h4,_⟩:=ih;have h1:EdR b m p x R:=h1;have one:(∃ P Q,b.lay (m+1)=P++Q∧tl m p=Q.flatMap (Tr.lay m))->∃ R Y,EndR b m (dropT true m 1 p) R∧R0=Y++R∧expI (M++[⟨x,none,1⟩])=expI M0++Y∧Tie (M++[⟨x,none,1⟩])∧((M++[⟨x,none,1⟩]=M0∧dropT true m 1 p=e0)∨((∃ P Q,b.lay (m+1)=P++Q∧R=Q.flatMap (Tr.lay m))∧∃ z,(expI (M++[⟨x,none,1⟩])).getLast?=some z∧z.key=ky)):=by
   rintro ⟨P,Q,q1,q2⟩;refine ⟨tl m p,Y++[x],dropR hc.gd p x h1.zip h1.above,?_,?_,h4.snoc ⟨Nat.le_refl _,.inl ⟨rfl,rfl⟩⟩,.inr ⟨⟨P,Q,q1,q2⟩,x,?_,hk⟩⟩
   ·rw [h2,h1.eq];simp
   ·rw [expI_snoc,h3,exp_one];simp
   ·rw [expI_snoc,exp_one];simp
  unfold strStep;simp only [Nat.add_sub_cancel];cases ht:topAt (m+1) p with
  |none =>
   obtain ⟨P,Q,q1,q2,_⟩:=grMoveN ho hc h1 (topAt_none ht);exact one ⟨P,Q,q1,q2⟩
  |some q =>
   obtain ⟨p',rfl,hq⟩:=topAt_some ht;obtain ⟨t,j⟩:=q;have hx:=h1.zip.tail.2;have hlt:=gelt hx;have hg:=(h1.zip.tail.1.gd hc.gd).1;simp only [List.tail_cons];by_cases hv:hvT true (t,j)=2
   ·rw [if_pos hv];obtain rfl:j=0:=by
     obtain ⟨u,v,rfl,_⟩:=even_pair hg hq ho;simp [hvT,kids] at hv hlt;omega
    obtain ⟨P,Q,v,q1,rfl,q3,q4,q5,q6⟩:=grPair ho hc h1 hq;have hkv:x.key=v.key:=(by rw [fits_tie htie] at q3;simpa using q3);simp only [sndT];cases ht2:topAt (m+1+1) p' with
    |none =>
     refine ⟨tl m p',Y++[x,v],dropR hc.gd p' _ h1.zip.tail.1 (fun f hf=>h1.above f (by simp [hf])),?_,?_,h4.snoc ⟨Nat.le_refl _,.inr ⟨v,rfl,hkv⟩⟩,.inr ⟨⟨P++[Tr.pair x v],Q,by rw [q1];simp,q4⟩,v,?_,hkv.symm.trans hk⟩⟩
     ·rw [h2,q6];simp
     ·rw [expI_snoc,h3];simp [It.exp]
     ·rw [expI_snoc];simp [It.exp]
    |some q2 =>
     obtain ⟨p'',rfl,hq2⟩:=topAt_some ht2;obtain ⟨t2,j2⟩:=q2;have hz2:=h1.zip.tail.1;have hx2:=hz2.tail.2;have hlt2:=gelt hx2;have hg2:=(hz2.tail.1.gd hc.gd).1;obtain ⟨s,k,rfl,hk2⟩:=odd_pow hg2 hq2 (by omega);obtain rfl:Tr.pair x v=s:=List.eq_of_mem_replicate (List.mem_of_getElem? hx2);simp only [kids,List.length_replicate] at hlt2;have hkj:hvT true (Tr.pow (Tr.pair x v) k,j2)=k-j2:=(by simp [hvT,kids]);simp only [hkj];have hdt:dropT true m (k-j2) ((Tr.pow (Tr.pair x v) k,j2)::p'')=dropT true m 1 p'':=by
      simp only [dropT,if_true,kids,List.length_replicate];rw [if_neg (by omega)]
     rw [hdt];obtain ⟨n,hn⟩:∃ n,k-j2=n+1:=⟨k-j2-1,by omega⟩
     have hlay:(Tr.pair x v).lay m=[x,v]:=lay_kids hg hq;have hR:R=(List.replicate (k-j2) [x,v]).flatten++tl m p'':=by
      rw [q6];simp only [tl,kids,List.drop_replicate,List.flatMap_replicate,hlay];rw [show k-(j2+1)=n by omega,hn];simp [List.replicate_succ]
     have hQ:Q=List.replicate n (Tr.pair x v)++tl (m+1) p'':=by
      rw [q5];simp only [tl,kids,List.drop_replicate,List.flatMap_replicate];rw [show k-(j2+1)=n by omega,lay_low (m:=m+1) (t:=Tr.pair x v) (Nat.le_of_eq hq)];congr 1
      simp
     obtain ⟨l,hl⟩:=turn_last x v (k-j2) (by omega);refine ⟨tl m p'',Y++(List.replicate (k-j2) [x,v]).flatten,dropR hc.gd p'' _ hz2.tail.1 (fun f hf=>h1.above f (by simp [hf])),?_,?_,h4.snoc ⟨by simp only;omega,.inr ⟨v,rfl,hkv⟩⟩,.inr ⟨⟨P++Tr.pair x v::List.replicate n (Tr.pair x v),tl (m+1) p'',by rw [q1,hQ];simp,(tl_up p'').symm⟩,v,?_,hkv.symm.trans hk⟩⟩
     ·rw [h2,hR];simp
     ·rw [expI_snoc,h3];simp [It.exp]
     ·rw [expI_snoc];simp only [It.exp];rw [hl];simp
   ·rw [if_neg hv];have hj:j≠0:=by
     rintro rfl;obtain ⟨u,v,rfl,_⟩:=even_pair hg hq ho;simp [hvT,kids] at hv
    obtain ⟨P,Q,q1,q2,_⟩:=grMoveT ho hc h1 hq hj;exact one ⟨P,Q,q1,q2⟩
theorem gStr_ok (ho:m%2=1) (htie:isTie (m+1)=true) (hc:Canon b) (hd:EndR b m e R) (hM:One M) (h:GStr (m+1) e M e' M'):(∃ Q,ROk b m R M e' M' Q)∧Tie M':=by
 cases h with
 |none he =>
  obtain ⟨p,o⟩:=e;simp only at he;subst he;obtain ⟨rfl,rfl⟩:=hd;exact ⟨⟨[],ROk.none b m M⟩,hM.tie⟩
 |@keep p x he hk =>
  subst he;refine ⟨?_,hM.tie⟩;have hd:EdR b m p x R:=hd;have hD:EndR b m (p,some x) R:=hd;unfold strKeep at hk;simp only [Bool.and_eq_true] at hk;have hw:∃ P Q,b.lay (m+1)=P++Q∧R=Q.flatMap (Tr.lay m):=by
   cases ht:topAt (m+1) p with
   |none=>exact grKeepN hc hd (topAt_none ht)
   |some q =>
    obtain ⟨p',rfl,hq⟩:=topAt_some ht;obtain ⟨t,j⟩:=q;have hlt:=gelt hd.zip.tail.2;obtain ⟨u,v,rfl,_⟩:=even_pair (hd.zip.tail.1.gd hc.gd).1 hq ho;have hk1:=hk.1;simp [ht,hvT,kids] at hk1 hlt;obtain rfl:j=0:=by omega
    exact grKeepT hc hd hq
  obtain ⟨P,Q,h1,h2⟩:=hw;refine ⟨Q,⟨P,h1⟩,by rw [← h2];exact hD,upR hc h1 (by rw [← h2];exact hD),⟨[],by simpa using h2,by simp⟩,?_⟩;rw [step_even ho,step_even ho];refine gr_cut ho hc h1 _ fun z y hz hy=>?_
  rw [← h2,hd.eq] at hy;simp at hy;subst hy;rw [fits_tie htie];rw [hM.exp,List.getLast?_map] at hz;cases hl:M.getLast? with
  |none=>rw [hl] at hz;cases hz
  |some i =>
   rw [hl] at hz;simp at hz;have hk2:=hk.2;rw [hl] at hk2;simp at hk2;rw [← hz];simpa using hk2
 |@go p x e' M' he hk hs hne =>
  subst he;obtain ⟨R',Y,h1,h2,h3,h4,h5⟩:=strs_inv ho htie hc hd hM.tie hs;refine ⟨?_,h4⟩;rcases h5 with ⟨rfl,rfl⟩|⟨⟨P,Q,q1,q2⟩,z0,hz0,hzk⟩
  ·exact absurd rfl (hne x rfl)
  ·rw [q2] at h1 h2;refine ⟨Q,⟨P,q1⟩,h1,upR hc q1 h1,⟨Y,h2,h3⟩,?_⟩;rw [step_even ho,step_even ho];refine gr_cut ho hc q1 _ fun z y hz hy=>?_
   rw [hz0] at hz;injection hz with hz
   subst hz;rw [fits_tie htie,hzk];obtain ⟨p',o⟩:=e';cases o with
   |none=>obtain ⟨_,h⟩:=h1;rw [h] at hy;cases hy
   |some y' =>
    have h1:EdR b m p' y' _:=h1;rw [h1.eq] at hy;simp at hy;subst hy;have:=hne y' rfl;simp;exact fun e=>this e.symm
end
theorem push_all:∀ {M acc:List It},Sg acc->ApI acc->Sg M->Sg (M.foldl pushI acc)∧ApI (M.foldl pushI acc)∧expI (M.foldl pushI acc)=expI acc++expI M
 |[],acc,h1,h2,_=>⟨h1,h2,by simp [expI_nil]⟩
 |i::M,acc,h1,h2,h3=>by
  obtain ⟨p1,p2⟩:=push_sg h1 (h3 i (by simp));obtain ⟨q1,q2,q3⟩:=push_all p1 (push_ap (i:=i) h2) (fun j hj=>h3 j (by simp [hj]):Sg M);exact ⟨q1,q2,by rw [List.foldl_cons,q3,p2,expI_cons];simp⟩
def mRuns (M:List It):List It:=(M.foldl pushI []).map powI
theorem mRuns_ok {M:List It} (h:Sg M):One (mRuns M)∧expI (mRuns M)=runs (expI M):=by
 obtain ⟨h1,h2,h3⟩:=push_all (M:=M) (acc:=[]) (fun i hi=>by simp at hi) trivial h;exact ⟨powI_one h1,by unfold mRuns;rw [runs_exp h1 h2,h3];simp [expI_nil]⟩
def mPairs (lv:Nat):List It->List It->List It
 |acc,[]=>acc
 |acc,[x]=>pushI acc x
 |acc,x::y::r=>if fits lv x.x y.x=true then mPairs lv (pushI acc ⟨.pair x.x y.x,none,1⟩) r else mPairs lv (pushI acc x) (y::r)
termination_by _ l=>l.length
theorem mPairs_ok (lv:Nat):∀ {M acc:List It},Sg acc->One M->Sg (mPairs lv acc M)∧expI (mPairs lv acc M)=expI acc++pairsF (fits lv) (expI M)
 |[],acc,h1,_=>by unfold mPairs;exact ⟨h1,by simp [expI_nil,pairsF]⟩
 |[x],acc,h1,h2=>by
  have hx:=h2 x (by simp);obtain ⟨p1,p2⟩:=push_sg (i:=x) h1 ⟨hx.1,by omega⟩;unfold mPairs;exact ⟨p1,by rw [p2];simp [expI_cons,expI_nil,It.exp,hx.1,hx.2,pairsF]⟩
 |x::y::r,acc,h1,h2=>by
  have hx:=h2 x (by simp);have hy:=h2 y (by simp);have e:expI (x::y::r)=x.x::y.x::expI r:=(by simp [expI_cons,It.exp,hx.1,hx.2,hy.1,hy.2]);have e2:expI (y::r)=y.x::expI r:=(by simp [expI_cons,It.exp,hy.1,hy.2]);unfold mPairs;rw [e];by_cases hf:fits lv x.x y.x=true
  ·rw [if_pos hf,pairs_two _ _ _ _ hf];obtain ⟨p1,p2⟩:=push_sg (i:=⟨.pair x.x y.x,none,1⟩) h1 ⟨rfl,Nat.le_refl _⟩;obtain ⟨q1,q2⟩:=mPairs_ok lv (M:=r) p1 fun j hj=>h2 j (by simp [hj])
   exact ⟨q1,by rw [q2,p2,exp_one];simp⟩
  ·rw [if_neg hf,pairs_skip _ _ _ fun z hz=>by simp at hz;subst hz;simpa using hf];obtain ⟨p1,p2⟩:=push_sg (i:=x) h1 ⟨hx.1,by omega⟩;obtain ⟨q1,q2⟩:=mPairs_ok lv (M:=y::r) p1 fun j hj=>h2 j (by simp at hj ⊢;exact .inr hj)
   refine ⟨q1,?_⟩;rw [q2,p2,e2];simp [It.exp,hx.1,hx.2]
termination_by M=>M.length
def mStr0 (l:List It) (i:It):List It×Option Tr:=match i.nx with
 |none=>(l,some i.x)
 |some y=>(pushI l ⟨.pair i.x y,none,i.n⟩,none)
def mStr1 (s:List It×Option Tr) (i:It):List It×Option Tr:=match s.2 with
 |none=>mStr0 s.1 i
 |some o=>if o.key=i.x.key then ((match i.nx with
   |some y=>if 1<i.n then pushI (pushI s.1 ⟨.pair o i.x,none,1⟩) ⟨.pair y i.x,none,i.n-1⟩ else pushI s.1 ⟨.pair o i.x,none,1⟩
   |none=>pushI s.1 ⟨.pair o i.x,none,1⟩),i.nx) else mStr0 (pushI s.1 ⟨o,none,1⟩) i
def mStrE (s:List It×Option Tr):List It:=match s.2 with|none=>s.1|some o=>pushI s.1 ⟨o,none,1⟩
section
variable {lv:Nat} (htie:isTie lv=true)
include htie
theorem mStr0_ok {l:List It} {i:It} (hs:Sg l) (hi:TieI i) (Z:List Tr):Sg (mStr0 l i).1∧expI (mStr0 l i).1++pairsF (fits lv) ((mStr0 l i).2.toList++Z)=expI l++pairsF (fits lv) (i.exp++Z):=by
 obtain ⟨h1,h2⟩:=hi;unfold mStr0;rcases h2 with ⟨h3,h4⟩|⟨y,h3,h4⟩
 ·rw [h3];exact ⟨hs,by simp [It.exp,h3,h4]⟩
 ·rw [h3];obtain ⟨p1,p2⟩:=push_sg (i:=⟨.pair i.x y,none,i.n⟩) hs ⟨rfl,h1⟩;refine ⟨p1,?_⟩;simp only [It.exp,h3];rw [p2,pairs_turn _ _ _ (by rw [fits_tie htie];simpa using h4)];simp [It.exp]
theorem mStr1_ok {s:List It×Option Tr} {i:It} (hs:Sg s.1) (hi:TieI i) (Z:List Tr):Sg (mStr1 s i).1∧expI (mStr1 s i).1++pairsF (fits lv) ((mStr1 s i).2.toList++Z)=expI s.1++pairsF (fits lv) (s.2.toList++(i.exp++Z)):=by
 obtain ⟨l,o⟩:=s;cases o with
 |none=>exact mStr0_ok htie hs hi Z
 |some o =>
  unfold mStr1;simp only;by_cases hk:o.key=i.x.key
  ·rw [if_pos hk];have hf:fits lv o i.x=true:=(by rw [fits_tie htie];simpa using hk);obtain ⟨p1,p2⟩:=push_sg (i:=⟨.pair o i.x,none,1⟩) hs ⟨rfl,Nat.le_refl _⟩;obtain ⟨h1,h2⟩:=hi;rcases h2 with ⟨h3,h4⟩|⟨y,h3,h4⟩
   ·rw [h3];refine ⟨p1,?_⟩;simp only [It.exp,h3,h4];rw [p2];simp only [Option.toList,List.nil_append,List.replicate_succ,List.replicate_zero,List.cons_append];rw [pairs_two _ _ _ _ hf];simp [It.exp]
   ·rw [h3];obtain ⟨n,hn⟩:=Nat.exists_eq_succ_of_ne_zero (show i.n≠0 by omega);have e1:(i.exp++Z)=i.x::(List.replicate n [y,i.x]).flatten++(y::Z):=by
     simp only [It.exp,h3,hn,List.replicate_succ,List.flatten_cons,List.cons_append,List.nil_append,List.append_assoc];have:=turn_shift y i.x n;rw [← List.cons_append,this];simp
    have hf2:fits lv y i.x=true:=(by rw [fits_tie htie];simpa using h4.symm);have e2:pairsF (fits lv) ((some o).toList++(i.exp++Z))=.pair o i.x::(List.replicate n (Tr.pair y i.x)++pairsF (fits lv) (y::Z)):=by
     rw [e1];simp only [Option.toList,List.cons_append,List.nil_append];rw [pairs_two _ _ _ _ hf,pairs_turn _ _ _ hf2]
    rw [e2];simp only;by_cases h5:1<i.n
    ·rw [if_pos h5];obtain ⟨q1,q2⟩:=push_sg (i:=⟨.pair y i.x,none,i.n-1⟩) p1 ⟨rfl,by simp only;omega⟩;refine ⟨q1,?_⟩;rw [q2,p2];simp [It.exp,show i.n-1=n by omega]
    ·rw [if_neg h5];refine ⟨p1,?_⟩;rw [p2];simp [It.exp,show n=0 by omega]
  ·rw [if_neg hk];obtain ⟨p1,p2⟩:=push_sg (i:=⟨o,none,1⟩) hs ⟨rfl,Nat.le_refl _⟩;obtain ⟨q1,q2⟩:=mStr0_ok htie (l:=pushI l ⟨o,none,1⟩) p1 hi Z;refine ⟨q1,?_⟩;rw [q2,p2];simp only [Option.toList,List.cons_append,List.nil_append,exp_one];rw [pairs_skip _ o (i.exp++Z) fun z hz=>?_]
   ·simp
   ·have:z=i.x:=by
     obtain ⟨h1,h2⟩:=hi;obtain ⟨n,hn⟩:=Nat.exists_eq_succ_of_ne_zero (show i.n≠0 by omega);rcases h2 with ⟨h3,h4⟩|⟨y,h3,h4⟩
     ·simp [It.exp,h3,h4] at hz;exact hz.symm
     ·simp [It.exp,h3,hn,List.replicate_succ] at hz;exact hz.symm
    subst this;rw [fits_tie htie];simpa using hk
theorem mStrs_ok:∀ {M:List It} {s:List It×Option Tr},Sg s.1->Tie M->Sg (mStrE (M.foldl mStr1 s))∧expI (mStrE (M.foldl mStr1 s))=expI s.1++pairsF (fits lv) (s.2.toList++expI M)
 |[],(l,none),h1,_=>⟨h1,by simp [mStrE,expI_nil,pairsF]⟩
 |[],(l,some o),h1,_=>by
  obtain ⟨p1,p2⟩:=push_sg (i:=⟨o,none,1⟩) h1 ⟨rfl,Nat.le_refl _⟩;exact ⟨p1,by simp only [List.foldl_nil,mStrE];rw [p2];simp [expI_nil,pairsF,It.exp]⟩
 |i::M,s,h1,h2=>by
  obtain ⟨p1,p2⟩:=mStr1_ok htie h1 (h2 i (by simp)) (expI M);obtain ⟨q1,q2⟩:=mStrs_ok (M:=M) (s:=mStr1 s i) p1 fun j hj=>h2 j (by simp [hj])
  exact ⟨q1,by rw [List.foldl_cons,q2,p2,expI_cons]⟩
end
theorem head_exp {b:Tr} {m:Nat} {e:EndP} {R:List Tr} {M:List It} (hM:Sg M) (hr:EndR b m e R):∀ y,(expI M++R).head?=some y->headT M e=some y:=by
 intro y hy;cases M with
 |nil =>
  obtain ⟨p,o⟩:=e;simp only [expI_nil,List.nil_append] at hy;cases o with
  |none=>obtain ⟨_,rfl⟩:=hr;cases hy
  |some x =>
   have hr:EdR b m p x R:=hr;rw [hr.eq] at hy;simpa [headT] using hy
 |cons i M =>
  have hi:=hM i (by simp);obtain ⟨n,hn⟩:=Nat.exists_eq_succ_of_ne_zero (show i.n≠0 by omega);simpa [expI_cons,It.exp,hi.1,hn,List.replicate_succ,headT] using hy
theorem last_exp {M:List It} (d:EndP) (hM:Sg M):∀ z,(expI M).getLast?=some z->lastT M d=some z:=by
 intro z hz;rcases snoc_cases M with rfl|⟨M',i,rfl⟩
 ·cases hz
 ·have hi:=hM i (by simp);obtain ⟨n,hn⟩:=Nat.exists_eq_succ_of_ne_zero (show i.n≠0 by omega);rw [expI_snoc] at hz;simp only [It.exp,hi.1,hn,List.replicate_succ'] at hz;rw [← List.append_assoc] at hz;simpa [lastT] using hz
theorem level_ok {a b:Tr} {m:Nat} {M M1 M2 M3:List It} {L R s P Q:List Tr} {d1 e2:EndP} (hs:seqP s m=L++expI M++R) (hl:LOk a m L R M d1 M1 P) (hr:ROk b m R M1 e2 M2 Q) (hm:expI M3=stepP (m+1) (expI M2)):seqP s (m+1)=P++expI M3++Q:=by
 obtain ⟨Y,y1,y2⟩:=hl.mv;obtain ⟨Z,z1,z2⟩:=hr.mv;show stepP (m+1) (seqP s m)=_
 have e1:L++expI M++R=P.flatMap (Tr.lay m)++(expI M1++R):=(by rw [y1,y2];simp);have e2:expI M1++R=expI M2++Q.flatMap (Tr.lay m):=(by rw [z2,z1];simp);rw [hs,e1,hl.cut,e2,hr.cut,hm,List.append_assoc]
def let0 (l:List Tr):Nat:=(l.flatMap (Tr.lay 0)).length
theorem let0_append (a b:List Tr):let0 (a++b)=let0 a+let0 b:=by simp [let0]
theorem let0_flat (m:Nat) (l:List Tr):let0 (l.flatMap (Tr.lay m))=let0 l:=by unfold let0;rw [flat_lay (Nat.zero_le m)]
theorem LOk.let_ {a:Tr} {m:Nat} {L R P:List Tr} {M M1:List It} {d1:EndP} (h:LOk a m L R M d1 M1 P):let0 P<=let0 L:=by
 obtain ⟨Y,h1,_⟩:=h.mv;rw [h1,let0_append,let0_flat];omega
theorem ROk.let_ {b:Tr} {m:Nat} {R Q:List Tr} {M M1:List It} {e1:EndP} (h:ROk b m R M e1 M1 Q):let0 Q<=let0 R:=by
 obtain ⟨Y,h1,_⟩:=h.mv;rw [h1,let0_append,let0_flat];omega
structure SpI (a b:Tr) (s:List Tr) (i n m:Nat) (d e:EndP) (M:List It):Prop where
 ca:Canon a
 cb:Canon b
 ex:∃ L R,EndL a m d L∧EndR b m e R∧seqP s m=L++expI M++R∧let0 L<=i∧let0 R<=n
 sg:Sg M
 one:m%2=1->One M
def LevR (lv:Nat) (d e:EndP) (M:List It) (d' e':EndP) (M':List It):Prop :=
 if lv%2=1 then d'=upT false lv (gRunL lv d e M).1∧e'=upT true lv (gRunR lv (gRunL lv d e M).1 e (gRunL lv d e M).2).1∧M'=mRuns (gRunR lv (gRunL lv d e M).1 e (gRunL lv d e M).2).2
 else if isTie lv=true then ∃ e2 M2,GStr lv e (gPairL lv d e M).2 e2 M2∧d'=upT false lv (gPairL lv d e M).1∧e'=upT true lv e2∧M'=mStrE (M2.foldl mStr1 ([],none))
 else d'=upT false lv (gPairL lv d e M).1∧e'=upT true lv (gPairR lv (gPairL lv d e M).1 e (gPairL lv d e M).2).1∧M'=mPairs lv [] (gPairR lv (gPairL lv d e M).1 e (gPairL lv d e M).2).2
theorem runT_pos {bk:Bool} {lv:Nat} {p:List (Tr×Nat)} (h:∀ q∈p,q.2<(kids q.1).length):1<=(runT bk lv p).1:=by
 unfold runT;split
 ·simp
 ·rename_i q hq;obtain ⟨p',rfl,_⟩:=topAt_some hq;have:=h q (by simp);simp only [hvT];split <;> omega
theorem Zip.lt {a x:Tr} {p:List (Tr×Nat)} (h:Zip a p x):∀ q∈p,q.2<(kids q.1).length:=by
 induction h with
 |root=>simp
 |down _ hc ih =>
  intro q hq;rcases List.mem_cons.1 hq with rfl|hq
  ·exact gelt hc
  ·exact ih q hq
theorem gRunL_sg {a:Tr} {m lv:Nat} {d e:EndP} {M:List It} {L:List Tr} (hd:EndL a m d L) (hM:Sg M):Sg (gRunL lv d e M).2:=by
 obtain ⟨p,o⟩:=d;cases o with
 |none=>exact hM
 |some x =>
  have hd:EdL a m p x L:=hd;unfold gRunL;simp only;split
  ·intro i hi;rcases List.mem_cons.1 hi with rfl|hi
   ·exact ⟨rfl,runT_pos hd.zip.lt⟩
   ·exact hM i hi
  ·exact hM
theorem gRunR_sg {b:Tr} {m lv:Nat} {d e:EndP} {M:List It} {R:List Tr} (hd:EndR b m e R) (hM:Sg M):Sg (gRunR lv d e M).2:=by
 obtain ⟨p,o⟩:=e;cases o with
 |none=>exact hM
 |some x =>
  have hd:EdR b m p x R:=hd;unfold gRunR;simp only;split
  ·intro i hi;rcases List.mem_append.1 hi with hi|hi
   ·exact hM i hi
   ·simp at hi;subst hi;exact ⟨rfl,runT_pos hd.zip.lt⟩
  ·exact hM
theorem gPairL_one {lv:Nat} {d e:EndP} {M:List It} (hM:One M):One (gPairL lv d e M).2:=by
 unfold gPairL;split
 ·exact hM
 ·split
  ·exact hM
  ·intro i hi;rcases List.mem_cons.1 hi with rfl|hi
   ·exact ⟨rfl,rfl⟩
   ·exact hM i hi
theorem gPairR_one {lv:Nat} {d e:EndP} {M:List It} (hM:One M):One (gPairR lv d e M).2:=by
 unfold gPairR;split
 ·exact hM
 ·split
  ·exact hM
  ·intro i hi;rcases List.mem_append.1 hi with hi|hi
   ·exact hM i hi
   ·simp at hi;subst hi;exact ⟨rfl,rfl⟩
theorem SpI.next {a b:Tr} {s:List Tr} {i n m:Nat} {d e d' e':EndP} {M M':List It} (h:SpI a b s i n m d e M) (hr:LevR (m+1) d e M d' e' M'):SpI a b s i n (m+1) d' e' M':=by
 obtain ⟨L,R,h1,h2,h3,h4,h5⟩:=h.ex;unfold LevR at hr;by_cases he:m%2=0
 ·rw [if_pos (by omega)] at hr;obtain ⟨rfl,rfl,rfl⟩:=hr;obtain ⟨P,hl⟩:=gRunL_ok he h.ca h1 (head_exp h.sg h2);have hsg:=gRunL_sg (lv:=m+1) (e:=e) h1 h.sg;obtain ⟨Q,hq⟩:=gRunR_ok he h.cb h2 (last_exp (gRunL (m+1) d e M).1 hsg);have hsg2:=gRunR_sg (lv:=m+1) (d:=(gRunL (m+1) d e M).1) h2 hsg;obtain ⟨m1,m2⟩:=mRuns_ok hsg2;exact ⟨h.ca,h.cb,⟨P,Q,hl.up,hq.up,level_ok h3 hl hq (by rw [m2,step_odd he]),Nat.le_trans hl.let_ h4,Nat.le_trans hq.let_ h5⟩,m1.sg,fun _=>m1⟩
 ·rw [if_neg (by omega)] at hr;have ho:m%2=1:=(by omega);have hone:=h.one ho;obtain ⟨P,hl⟩:=gPairL_ok ho h.ca h1 (head_exp h.sg h2);have hone1:=gPairL_one (lv:=m+1) (d:=d) (e:=e) hone;split at hr
  ·rename_i ht;obtain ⟨e2,M2,hg,rfl,rfl,rfl⟩:=hr;obtain ⟨⟨Q,hq⟩,hT⟩:=gStr_ok ho ht h.cb h2 hone1 hg;obtain ⟨m1,m2⟩:=mStrs_ok ht (M:=M2) (s:=([],none)) (fun i hi=>by simp at hi) hT;exact ⟨h.ca,h.cb,⟨P,Q,hl.up,hq.up,level_ok h3 hl hq (by rw [m2,step_even ho];simp [expI_nil]),Nat.le_trans hl.let_ h4,Nat.le_trans hq.let_ h5⟩,m1,fun h=>by omega⟩
  ·rename_i ht;obtain ⟨rfl,rfl,rfl⟩:=hr;obtain ⟨Q,hq⟩:=gPairR_ok ho (by simpa using ht) h.cb h2 (last_exp (gPairL (m+1) d e M).1 hone1.sg);have hone2:=gPairR_one (lv:=m+1) (d:=(gPairL (m+1) d e M).1) (e:=e) hone1;obtain ⟨m1,m2⟩:=mPairs_ok (m+1) (M:=(gPairR (m+1) (gPairL (m+1) d e M).1 e (gPairL (m+1) d e M).2).2) (acc:=[]) (fun i hi=>by simp at hi) hone2;exact ⟨h.ca,h.cb,⟨P,Q,hl.up,hq.up,level_ok h3 hl hq (by rw [m2,step_even ho];simp [expI_nil]),Nat.le_trans hl.let_ h4,Nat.le_trans hq.let_ h5⟩,m1,fun h=>by omega⟩
theorem SpI.start {a b:Tr} {i j:Nat} {d e:EndP} (ca:Canon a) (cb:Canon b) (hl:EndL a 0 d ((a.lay 0).take i)) (hr:EndR b 0 e ((b.lay 0).drop j)):SpI a b ((a.lay 0).take i++(b.lay 0).drop j) i ((b.lay 0).length-j) 0 d e []:=by
 have flat0:∀ {l:List Tr},Leaves l->l.flatMap (Tr.lay 0)=l:=fun h=>flat_same fun t ht=>by obtain ⟨b,rfl⟩:=h t ht;simp [Tr.lv,Tr.lev]
 refine ⟨ca,cb,⟨_,_,hl,hr,by simp [seqP,expI_nil],?_,?_⟩,fun i hi=>by simp at hi,fun h=>by simp at h⟩
 ·unfold let0;rw [flat0 fun t ht=>ca.leaves t (List.mem_of_mem_take ht)];simp;omega
 ·unfold let0;rw [flat0 fun t ht=>cb.leaves t (List.mem_of_mem_drop ht)];simp
theorem SpI.done {a b T:Tr} {s:List Tr} {i n m k:Nat} {d e:EndP} {nx:Option Tr} (h:SpI a b s i n m d e [⟨T,nx,1⟩]) (hs:Leaves s) (h1:d.2=none) (h2:e.2=none):Canon T∧T.lay 0=s∧T.Upto m:=by
 obtain ⟨L,R,hl,hr,h3,_⟩:=h.ex;obtain ⟨p,o⟩:=d;obtain ⟨q,o2⟩:=e;simp only at h1 h2;subst h1 h2;obtain ⟨rfl,rfl⟩:=hl;obtain ⟨rfl,rfl⟩:=hr;have:=(h.sg ⟨T,nx,1⟩ (by simp)).1;simp only at this;subst this;exact canon_of hs (by rw [h3];simp [expI_cons,expI_nil,It.exp])
theorem above_nil {a x:Tr} {m:Nat} {p:List (Tr×Nat)} (ga:a.Gd) (hz:Zip a p x) (ha:Above m p) (hl:a.lv<=m):p=[]∧x=a:=by
 cases hz with
 |root=>exact ⟨rfl,rfl⟩
 |@down p t j c h1 h2 =>
  have:=ha (t,j) (by simp);have h3:t.lv<=a.lv:=by
   have:=((Zip.down h1 h2).gd ga).2 (t,j) (by simp);exact this.2.2
  simp only at this;omega
theorem SpI.ends {a b:Tr} {s:List Tr} {i n m:Nat} {d e:EndP} {M:List It} (h:SpI a b s i n m d e M) (hs:Leaves s) (hne:s≠[]) (hlen:s.length=i+n) (hmax:s.length<=1152921504606846976) (hm:25339<=m) (ha:a.lv<=25339) (hb:b.lv<=25339)
  (hi:i<=(a.lay 0).length) (hn:n<=(b.lay 0).length) (h1:¬ (i=0∧n=(b.lay 0).length)) (h2:¬ (n=0∧i=(a.lay 0).length)):d.2=none∧e.2=none∧∃ T,M=[⟨T,none,1⟩]:=by
 obtain ⟨T0,hT0⟩:=seq_one hs hne hmax;have hT:seqP s m=[T0]:=by
  have:∀ k,seqP s (25339+k)=[T0]:=fun k=>by
   induction k with
   |zero=>exact hT0
   |succ k ih=>rw [← Nat.add_assoc,show seqP s (25339+k+1)=stepP (25339+k+1) (seqP s (25339+k)) from rfl,ih,step_one]
  rw [show m=25339+(m-25339) by omega];exact this _
 obtain ⟨_,hl0,_⟩:=canon_of hs hT;have hTl:(T0.lay 0).length=i+n:=(by rw [hl0,hlen]);obtain ⟨L,R,hl,hr,h3,h4,h5⟩:=h.ex;rw [hT] at h3;have hlL:=congrArg List.length h3;simp only [List.length_append,List.length_cons,List.length_nil] at hlL;obtain ⟨p,o⟩:=d;obtain ⟨q,o2⟩:=e;have hd:o=none:=by
  cases o with
  |none=>rfl
  |some x =>
   exfalso;have hl:EdL a m p x L:=hl;obtain ⟨rfl,rfl⟩:=above_nil h.ca.gd hl.zip hl.above (by omega);have e1:=hl.eq;simp only [before,List.nil_append] at e1;have hl1:L.length=1:=(by rw [e1];rfl);have hR:R=[]:=List.eq_nil_of_length_eq_zero (by omega);have hM:expI M=[]:=List.eq_nil_of_length_eq_zero (by omega);rw [e1,hR,hM] at h3;simp at h3;rw [e1] at h4;simp only [let0,List.flatMap_cons,List.flatMap_nil,List.append_nil] at h4;rw [h3] at hTl;exact h2 ⟨by omega,by omega⟩
 have he:o2=none:=by
  cases o2 with
  |none=>rfl
  |some x =>
   exfalso;have hr:EdR b m q x R:=hr;obtain ⟨rfl,rfl⟩:=above_nil h.cb.gd hr.zip hr.above (by omega);have e1:=hr.eq;simp only [tl] at e1;have hr1:R.length=1:=(by rw [e1];rfl);have hL:L=[]:=List.eq_nil_of_length_eq_zero (by omega);have hM:expI M=[]:=List.eq_nil_of_length_eq_zero (by omega);rw [e1,hL,hM] at h3;simp at h3;rw [e1] at h5;simp only [let0,List.flatMap_cons,List.flatMap_nil,List.append_nil] at h5;rw [h3] at hTl;exact h1 ⟨by omega,by omega⟩
 subst hd he;obtain ⟨rfl,rfl⟩:=hl;obtain ⟨rfl,rfl⟩:=hr;refine ⟨rfl,rfl,T0,?_⟩;simp only [List.nil_append,List.append_nil] at h3;cases M with
 |nil=>simp [expI_nil] at h3
 |cons j M =>
  have hj:=h.sg j (by simp);have hlen2:=congrArg List.length h3;have hM:M=[]:=by
   cases M with
   |nil=>rfl
   |cons k M =>
    exfalso;have hk:=h.sg k (by simp);simp [expI_cons,It.exp,hj.1,hk.1] at hlen2;omega
  subst hM;obtain ⟨x,nx,c⟩:=j;simp only at hj;obtain rfl:nx=none:=hj.1;simp [expI_cons,expI_nil,It.exp] at hlen2;obtain rfl:c=1:=by omega
  simp [expI_cons,expI_nil,It.exp] at h3;rw [h3]
end
section
open Go.RowKit Go.Maps
def EndZ (a:Tr) (d:EndP):Prop:=match d.2 with|some x=>Zip a d.1 x|none=>d.1=[]
theorem EndZ.ofL {a:Tr} {m:Nat} {d:EndP} {L:List Tr} (h:EndL a m d L):EndZ a d:=by
 obtain ⟨p,o⟩:=d;cases o with
 |none=>exact h.1
 |some x=>exact (show EdL a m p x L from h).zip
theorem EndZ.ofR {a:Tr} {m:Nat} {d:EndP} {R:List Tr} (h:EndR a m d R):EndZ a d:=by
 obtain ⟨p,o⟩:=d;cases o with
 |none=>exact h.1
 |some x=>exact (show EdR a m p x R from h).zip
theorem Zip.room {a x:Tr} {p:List (Tr×Nat)} (h:Zip a p x) (ga:a.Gd):p.length+x.lv<=a.lv:=by
 induction h with
 |root=>simp
 |@down p t j c h1 hc ih =>
  have:=((h1.gd ga).1.kid (List.mem_of_getElem? hc)).2;simp only [List.length_cons];omega
structure EndIn (X:Px) (bk:Bool) (cs:Array Value) (o:Nat) (pv:Value) (fs:List Fr) (id ky:Nat) (d:EndP):Prop where
 at_:EndAt cs o X.p bk pv id ky
 path:PathOf X.S bk d.1 fs
 sym:match d.2 with|some x=>Den X.S id x∧ky=x.key|none=>id=0∧ky=0
theorem EndIn.ext {X X':Px} {bk:Bool} {cs:Array Value} {o:Nat} {pv:Value} {fs:List Fr} {id ky:Nat} {d:EndP} (h:EndIn X bk cs o pv fs id ky d) (hX:X.S.Ok) (he:X.Ext X'):EndIn X' bk cs o pv fs id ky d:=by
 refine ⟨by rw [he.p];exact h.at_,h.path.le hX he.le,?_⟩;have:=h.sym;cases hd:d.2 with
 |none=>rw [hd] at this;exact this
 |some x=>rw [hd] at this;exact ⟨this.1.le hX he.le,this.2⟩
theorem EndIn.other {X:Px} {bk:Bool} {cs cs':Array Value} {o o':Nat} {pv:Value} {fs:List Fr} {id ky:Nat} {d:EndP} (h:EndIn X bk cs o pv fs id ky d) (ha:AlikeBut cs cs' o') (hd:o+5<=o'∨o'+5<=o):EndIn X bk cs' o pv fs id ky d:=⟨h.at_.other ha hd,h.path,h.sym⟩
theorem EndIn.id_zero {X:Px} {bk:Bool} {cs:Array Value} {o:Nat} {pv:Value} {fs:List Fr} {id ky:Nat} {d:EndP} (h:EndIn X bk cs o pv fs id ky d):id=0↔d.2=none:=by
 have:=h.sym;cases hd:d.2 with
 |none=>rw [hd] at this;simp [this.1]
 |some x=>rw [hd] at this;have:=this.1.1;simp;omega
theorem PathOf.last {S:Sto} {bk:Bool} {p:List (Tr×Nat)} {fs:List Fr} {f:Fr} (h:PathOf S bk p (fs++[f])):∃ q p',p=q::p'∧FrOf S bk q f∧PathOf S bk p' fs:=by
 cases p with
 |nil =>
  have:fs++[f]=[]:=h;simp at this
 |cons q p =>
  obtain ⟨fs',f',h1,h2,h3⟩:=h;have:=List.append_inj' h1 rfl;obtain ⟨rfl,h4⟩:=this;simp at h4;subst h4;exact ⟨q,p,rfl,h2,h3⟩
theorem FrOf.hvT {S:Sto} {bk:Bool} {q:Tr×Nat} {f:Fr} (h:FrOf S bk q f):f.hv=hvT bk q:=h.hv
theorem FrOf.whole {S:Sto} (hS:S.Ok) {bk:Bool} {q:Tr×Nat} {f:Fr} (h:FrOf S bk q f):wholeN f.r=(kids q.1).length:=by
 obtain ⟨i,x,h1,h2,h3⟩:=h.rule;have hd:=h.den;rw [h1] at hd;rw [h3];exact (kids_rule hS h2 hd.2.2 (by have:=h.lt;omega)).1
theorem FrOf.lv {S:Sto} {bk:Bool} {q:Tr×Nat} {f:Fr} (h:FrOf S bk q f):q.1.lv=f.lev:=lv_of h.lev
theorem FrOf.times {S:Sto} (hS:S.Ok) {bk:Bool} {q:Tr×Nat} {f:Fr} (h:FrOf S bk q f) (ho:f.lev%2=1):f.r.times=(kids q.1).length:=by
 obtain ⟨t,j⟩:=q;obtain ⟨i,x,h1,h2,h3⟩:=h.rule;have hd:=h.den;have hl:=h.lev;simp only at hd hl;rw [h1] at hd;have hlt:=h.lt;simp only at hlt;rcases (kids_rule hS h2 hd.2.2 (by omega)).2 with ⟨l,r,u,v,e,rfl,_,_⟩|⟨l,u,k,e,rfl,_,_⟩
 ·obtain ⟨_,b,c,_,_,_,_,_,h4⟩:=lev_pair_inv hl;omega
 ·rw [h3,e];simp [kids]
theorem FrOf.two {S:Sto} (hS:S.Ok) {bk:Bool} {q:Tr×Nat} {f:Fr} (h:FrOf S bk q f) (he:f.lev%2=0):∃ u v,q.1=.pair u v∧Den S f.r.left u∧Den S f.r.right v:=by
 obtain ⟨t,j⟩:=q;obtain ⟨i,x,h1,h2,h3⟩:=h.rule;have hd:=h.den;have hl:=h.lev;simp only at hd hl;rw [h1] at hd;have hlt:=h.lt;simp only at hlt;rcases (kids_rule hS h2 hd.2.2 (by omega)).2 with ⟨l,r,u,v,e,rfl,d1,d2⟩|⟨l,u,k,e,rfl,_,_⟩
 ·rw [h3,e];exact ⟨u,v,rfl,d1,d2⟩
 ·obtain ⟨b,_,h4,h5⟩:=lev_pow_inv hl;omega
theorem pow2_len:∀ {t:Tr},t.Pow2->1<=t.len
 |.leaf _,_=>Nat.le_refl _
 |.pair l r,h=>by have:=pow2_len h.1;simp only [Tr.len];omega
 |.pow s k,h=>by
  have h1:=pow2_len h.1;have:=Nat.mul_le_mul h1 h.2;simp only [Tr.len];omega
theorem len_lay0:∀ {t:Tr},t.Gd->(t.lay 0).length=t.len
 |.leaf _,_=>rfl
 |.pair l r,h=>by
  have h1:=h.kid (c:=l) (by simp [kids]);have h2:=h.kid (c:=r) (by simp [kids]);rw [lay_high (by omega)];simp only [kids,List.flatMap_cons,List.flatMap_nil,List.append_nil,List.length_append,Tr.len];rw [len_lay0 h1.1,len_lay0 h2.1]
 |.pow s k,h=>by
  have h2:2<=k:=h.2.2;have h1:=h.kid (c:=s) (List.mem_replicate.2 ⟨by omega,rfl⟩);rw [lay_high (by omega)];simp only [kids,Tr.len,List.flatMap_replicate,List.length_flatten,List.map_replicate,List.sum_replicate_nat];rw [len_lay0 h1.1,Nat.mul_comm]
theorem FrOf.kids_le {S:Sto} (hS:S.Ok) {bk:Bool} {q:Tr×Nat} {f:Fr} (h:FrOf S bk q f):(kids q.1).length<=maxT:=by
 obtain ⟨i,x,h1,h2,h3⟩:=h.rule;have hd:=h.den;rw [h1] at hd;have e:=hd.2.2;cases rule_of hS h2 with
 |letter b hb hr hw ht=>rw [← e,ht];simp [kids]
 |pair l r y z hl hr hy hz he hw hs ht=>rw [← e,ht];simp [kids,maxT]
 |pow l k y hl hy hk he hw hs ht =>
  rw [← e,ht];simp only [kids,List.length_replicate];have h4:=tr_len hS l y hy;have h5:=pow2_len h4.2;rw [h4.1] at h5;have:=Nat.mul_le_mul_right k h5;omega
theorem FrOf.hv_le {S:Sto} (hS:S.Ok) {bk:Bool} {q:Tr×Nat} {f:Fr} (h:FrOf S bk q f):f.hv<=1152921504606846976:=by
 have h1:=h.kids_le hS;have h2:=h.hv;have h3:=h.lt;simp only [maxT] at h1;cases bk <;> simp at h2 <;> omega
theorem topAt_hit {lv:Nat} {q:Tr×Nat} {p:List (Tr×Nat)} (h:q.1.lv=lv):topAt lv (q::p)=some q:=by simp [topAt,h]
theorem topAt_miss {lv:Nat} {q:Tr×Nat} {p:List (Tr×Nat)} (h:q.1.lv≠lv):topAt lv (q::p)=none:=by simp [topAt,h]
theorem upT_nil (bk:Bool) (m:Nat) (s:Option Tr):upT bk m ([],s)=([],s):=by cases s <;> rfl
theorem upT_eq {bk:Bool} {m:Nat} {q:Tr×Nat} {p:List (Tr×Nat)} {x:Tr} (hlt:q.2<(kids q.1).length):upT bk m (q::p,some x)=if q.1.lv=m∧hvT bk q=(kids q.1).length then (p,some q.1) else (q::p,some x):=by
 obtain ⟨t,j⟩:=q;simp only at hlt;unfold upT hvT;simp only;by_cases h1:t.lv=m
 ·by_cases h2:(if bk then j=0 else j+1=(kids t).length)
  ·rw [if_pos ⟨h1,h2⟩,if_pos ⟨h1,by cases bk <;> simp at h2 ⊢ <;> omega⟩]
  ·rw [if_neg (fun h=>h2 h.2),if_neg (fun h=>h2 (by have:=h.2;cases bk <;> simp at this ⊢ <;> omega))]
 ·rw [if_neg (fun h=>h1 h.1),if_neg (fun h=>h1 h.1)]
theorem dropT_eq {bk:Bool} {m n:Nat} {q:Tr×Nat} {p:List (Tr×Nat)} (hlt:q.2<(kids q.1).length):dropT bk m n (q::p)=if n<hvT bk q then ((downT bk m ((q.1,if bk then q.2+n else q.2-n)::p) ((kids q.1).getD (if bk then q.2+n else q.2-n) q.1)).1,some (downT bk m ((q.1,if bk then q.2+n else q.2-n)::p) ((kids q.1).getD (if bk then q.2+n else q.2-n) q.1)).2) else dropT bk m 1 p:=by
 obtain ⟨t,j⟩:=q;simp only at hlt;unfold hvT;conv=>lhs;unfold dropT
 cases bk with
 |true =>
  simp only [if_true];by_cases h:j+n<(kids t).length
  ·rw [if_pos h,if_pos (by omega)]
  ·rw [if_neg h,if_neg (by omega)]
 |false =>
  simp only [Bool.false_eq_true,if_false];by_cases h:n<=j
  ·rw [if_pos h,if_pos (by omega)]
  ·rw [if_neg h,if_neg (by omega)]
theorem FrOf.less {S:Sto} {bk:Bool} {q:Tr×Nat} {f:Fr} {n:Nat} (h:FrOf S bk q f) (hn:n<f.hv):FrOf S bk (q.1,if bk then q.2+n else q.2-n) ⟨f.id,f.r,f.lev,f.hv-n⟩:=by
 have h1:=h.hv;have h2:=h.lt;refine ⟨h.den,h.lev,h.rule,?_,?_⟩
 ·simp only;cases bk <;> simp at h1 ⊢ <;> omega
 ·simp only;cases bk <;> simp at h1 ⊢ <;> omega
section
variable {w:World} {ty g n c:Nat} {fs:List Fr} {i:Nat} {f:Fr}
theorem fr_cell (h:(rowsA encFr ty 8 (.slice (some ⟨g,0,none⟩) n c) fs).ho w) (hx:fs[i]?=some f) {j:Nat} {u:Value} (hj:f.cells[j]?=some u):w.cell? ⟨g,i*8+j,none⟩=some u:=rowsA_cell h encFr_len hx hj
theorem fr_rule (h:(rowsA encFr ty 8 (.slice (some ⟨g,0,none⟩) n c) fs).ho w) (hx:fs[i]?=some f):w.rangeAt g (i*8+1) [.int .i64 f.r.kind,.int .u8 f.r.letter,.int .i64 f.r.left,.int .i64 f.r.right,.int .i64 f.r.times]:=by
 intro j u hj;have e:(encFr f)[j+1]?=([.int .i64 f.r.kind,.int .u8 f.r.letter,.int .i64 f.r.left,.int .i64 f.r.right,.int .i64 f.r.times]++[.int .i64 f.lev,.int .i64 f.hv]:List Value)[j]?:=rfl;have:=rowsA_rng h encFr_len hx (j+1) u (by rw [e,List.getElem?_append_left (getElem_len hj)];exact hj);rwa [show i*8+(j+1)=i*8+1+j by omega] at this
end
def As.both (A B:As):As:=⟨A.fp++B.fp,fun w=>A.ho w∧B.ho w,fun w w' h hw=>⟨A.loc w w' (fun b hb=>h b (by simp [hb])) hw.1,B.loc w w' (fun b hb=>h b (by simp [hb])) hw.2⟩,fun w hw b hb=>by
 rcases List.mem_append.1 hb with hb|hb
 ·exact A.lt w hw.1 b hb
 ·exact B.lt w hw.2 b hb⟩
abbrev EndPost (X:Px) (bk:Bool) (b o:Nat) (ty:TypeId) (cs:Array Value) (d':EndP) (M:List Nat) (w:World) (v:Value) (e:Ending) (w':World):Prop :=
 ∃ (X':Px) (cs':Array Value) (pv':Value) (fs':List Fr) (id' ky':Nat),e=.returned v∧X.Ext X'∧PxOk X'∧X'.S=X.S∧EndIn X' bk cs' o pv' fs' id' ky' d'∧AlikeBut cs cs' o∧St w M [pA X',blk b (.cells cs' ty),rowsA encFr 265 8 pv' fs'] w'
end
section
open Go.RowKit Go.Maps
attribute [local go_sem] InGr
attribute [local go_sem] StStep stAt stUpon in
theorem up_c {X:Px} {a:Tr} {bk:Bool} {m b o id ky:Nat} {ty:TypeId} {d:EndP} {cs:Array Value} {pv:Value} {fs:List Fr} (hX:PxOk X) (he:EndIn X bk cs o pv fs id ky d) (hz:EndZ a d) (ga:a.Gd) (hal:a.lv<=25339) (hm:m<9223372036854775808) (w:World) (h:(((pA X).sep ((blk b (.cells cs ty)).sep (rowsA encFr 265 8 pv fs))).sep deA).ho w) :
  Calls Tryz.prog 152 #[.pointer (some ⟨b,o,none⟩),.int .i64 m] w (EndPost X bk b o ty cs (upT bk m d) ((pA X).sep ((blk b (.cells cs ty)).sep (rowsA encFr 265 8 pv fs))).fp w (.tuple #[])):=by
 rw [sep_ho] at h;obtain ⟨k1,k2,hdd⟩:=h;have H:=St.one k1;have HK:Ks w ((pA X).sep ((blk b (.cells cs ty)).sep (rowsA encFr 265 8 pv fs))).fp [deA]:=⟨by simpa using k2,by simpa using fun b hb hm=>hdd b hm hb⟩
 generalize ((pA X).sep ((blk b (.cells cs ty)).sep (rowsA encFr 265 8 pv fs))).fp=M at *;replace H:=H.sep;replace H:=(H.pick (.there .here)).sep;clear k1 k2 hdd;have HN20:∀ {n:Nat},fs.length=n+1->n<=1048576:=fun {n} hn=>by
  have h1:=he.path.len;obtain ⟨p,s⟩:=d;cases s with
  |none=>have:p=[]:=hz;subst this;rw [hn] at h1;simp at h1
  |some x=>have:=(show Zip a p x from hz).room ga;simp only at h1;omega
 have HX0:=zh hX;clear hX;have hX:=HX0;obtain ⟨p,sx⟩:=d;rcases snoc_cases fs with rfl|⟨fs1,f,rfl⟩
 ·have HE:=zh he;have hp:p=[]:=List.eq_nil_of_length_eq_zero (by have:=he.path.len;simpa using this.symm);subst hp;obtain ⟨ad,c,e1,_⟩:=rowsA_shape (H.get (A:=rowsA encFr 265 8 pv []) pk);simp only [List.length_nil] at e1;subst e1;have HPA:Hid (∀ w,(blk b (.cells cs ty)).ho w->Calls Tryz.prog 172 #[.pointer (some ⟨b,o,none⟩),.int .i64 m] w fun e w'=>e=.returned (.pointer none)∧w'=w):=zh fun w h=>parent_none (fun w h=>arr_cell h he.at_.c2) w h
  rw [upT_nil];clear he hz ga hal hm HN20;go_enter Tryz.func152,Tryz.ntmps152;go_wp2_with (first|refine sL ?_|(refine sS ?_;clear H;intros;rename_i H)|(go_at_call 172;with_reducible refine same (HPA.out _ (H.get pk)) ?_));refine wp_region_h H 14 [] [] (by kernel_rfl) (by kernel_rfl) ?_;apply Exists.intro;refine ⟨fun w1 hw1 HX=>?_,fun bs wr Hr=>?_⟩
  ·refine sG ?_;repeat (first|go_big_quiet_skip|refine sQ ?_|fail|go_big_quiet_step (fail))
   exact wpQuiet_nil rfl
  clear H;have H:=Hr;clear Hr;replace H:=sH H;refine sT ?_;go_wp2_with (first|refine sL ?_|(refine sS ?_;clear H;intros;rename_i H));refine nR ?_;exact ⟨X,cs,_,_,id,ky,rfl,.refl _,hX.out,rfl,HE.out,.refl _ _,H.picks (.cons pk (.cons pk (.cons pk .nil)))⟩
 ·have HE:=zh he;obtain ⟨q,p,rfl,hfr,hpp⟩:=he.path.last;obtain ⟨g,c,e1,hc1,hc2⟩:=rowsA_cases (H.get (A:=rowsA encFr 265 8 pv (fs1++[f])) pk) (by simp);obtain ⟨n,hn⟩:∃ n,fs1.length=n:=⟨_,rfl⟩
  have hlen:(fs1++[f]).length=n+1:=(by simp [hn]);rw [hlen] at e1 hc1;subst e1;have hn20:n<=1048576:=HN20 (by simpa using hlen);have hfx:(fs1++[f])[n]?=some f:=(by rw [← hn];simp);have HC0:Hid (∀ w,(rowsA encFr 265 8 (.slice (some ⟨g,0,none⟩) (n+1) c) (fs1++[f])).ho w->w.cell? ⟨g,n*8,none⟩=some (.int .i64 f.id)):=zh fun w h=>fr_cell (j:=0) h hfx rfl
  have HC5:Hid (∀ w,(rowsA encFr 265 8 (.slice (some ⟨g,0,none⟩) (n+1) c) (fs1++[f])).ho w->w.cell? ⟨g,n*8+5,none⟩=some (.int .i64 f.r.times)):=zh fun w h=>fr_cell h hfx rfl
  have HC6:Hid (∀ w,(rowsA encFr 265 8 (.slice (some ⟨g,0,none⟩) (n+1) c) (fs1++[f])).ho w->w.cell? ⟨g,n*8+6,none⟩=some (.int .i64 f.lev)):=zh fun w h=>fr_cell h hfx rfl
  have HC7:Hid (∀ w,(rowsA encFr 265 8 (.slice (some ⟨g,0,none⟩) (n+1) c) (fs1++[f])).ho w->w.cell? ⟨g,n*8+7,none⟩=some (.int .i64 f.hv)):=zh fun w h=>fr_cell h hfx rfl
  have HCR:Hid (∀ w,(rowsA encFr 265 8 (.slice (some ⟨g,0,none⟩) (n+1) c) (fs1++[f])).ho w->w.rangeAt g (n*8+1) [.int .i64 f.r.kind,.int .u8 f.r.letter,.int .i64 f.r.left,.int .i64 f.r.right,.int .i64 f.r.times]):=zh fun w h=>fr_rule h hfx
  have HPA:Hid (∀ w,(blk b (.cells cs ty)).ho w->(rowsA encFr 265 8 (.slice (some ⟨g,0,none⟩) (n+1) c) (fs1++[f])).ho w->Calls Tryz.prog 172 #[.pointer (some ⟨b,o,none⟩),.int .i64 m] w fun e w'=>e=.returned (if f.lev=m then .pointer (some ⟨g,n*8,none⟩) else .pointer none)∧w'=w):=zh fun w h1 h2=>parent_some (fs:=fs1) (Y:=(blk b (.cells cs ty)).both (rowsA encFr 265 8 (.slice (some ⟨g,0,none⟩) (n+1) c) (fs1++[f]))) (fun w h=>arr_cell h.1 he.at_.c2) hn20 (fun w h=>HC6.out w h.2) w ⟨h1,h2⟩
  have hsx:∃ x,sx=some x:=by
   cases sx with
   |none=>have:q::p=[]:=hz;cases this
   |some x=>exact ⟨x,rfl⟩
  obtain ⟨x,rfl⟩:=hsx;have hup:=upT_eq (bk:=bk) (m:=m) (p:=p) (x:=x) hfr.lt;have hwh:=hfr.whole hX.out.ok;rw [hfr.lv,← hfr.hvT,← hwh] at hup;have HWH:Hid (∀ w,Calls Tryz.prog 173 #[.agg #[.int .i64 f.r.kind,.int .u8 f.r.letter,.int .i64 f.r.left,.int .i64 f.r.right,.int .i64 f.r.times]] w fun e w'=>e=.returned (.int .i64 (wholeN f.r:Nat))∧St w [] [] w'):=zh fun w=>whole_c f.r w
  have hle:f.hv<=wholeN f.r:=by
   rw [hwh,hfr.hvT];have:=hfr.lt;unfold hvT;cases bk <;> simp <;> omega
  by_cases hlv:f.lev=m
  ·rw [if_pos hlv] at HPA;by_cases hwl:f.hv=wholeN f.r
   ·rw [if_pos ⟨hlv,hwl⟩] at hup;rw [hup];have d1:decide ((f.hv:Int)<((wholeN f.r:Nat):Int))=false:=(by simp;omega);have d2:decide (f.hv<wholeN f.r)=false:=(by simp;omega);have hat2:=he.at_.setId f.id;obtain ⟨cs2,hcs2⟩:∃ c,cs.setIfInBounds (o+3) (.int .i64 f.id)=c:=⟨_,rfl⟩
    have HCS2:=zh hcs2;have HSZ:Hid (o+5<=cs.size):=zh he.at_.sz;rw [hcs2] at hat2;have HAT2:=zh hat2;have HSZ2:Hid (o+5<=cs2.size):=zh hat2.sz;obtain ⟨kk,hkk⟩:∃ kk,q.1.key=kk:=⟨_,rfl⟩
    have HKK:=zh hkk;have HKY:Hid (∀ w,(pA X).ho w->Calls Tryz.prog 174 #[.pointer (some ⟨X.p,0,none⟩)] w fun e w'=>e=.returned (.pointer (some ⟨X.K.t,0,none⟩))∧w'=w):=zh fun w h=>keys_p w h
    have HKE:Hid (∀ w,((pA X).sep deA).ho w->Calls Tryz.prog 98 #[.pointer (some ⟨X.K.t,0,none⟩),.int .i64 f.id] w (PPost X (.tuple #[.int .u64 kk,.nilIface]) (pA X).fp w)):=zh fun w h=>by rw [← HKK.out];exact key_p hX.out hfr.den w h
    have HFR:=zh hfr;have HPP:=zh hpp;have HNN:=zh hn;have HCB:=zh (za hc1 hc2);have HAL:Hid (AlikeBut cs (cs2.setIfInBounds (o+4) (.int .u64 kk)) o):=zh (by
     have h1:=AlikeBut.set cs o (o+3) (.int .i64 f.id) (by omega) (by omega);rw [hcs2] at h1;exact h1.trans (AlikeBut.set cs2 o (o+4) (.int .u64 kk) (by omega) (by omega)))
    have hat3:=HAT2.out.setKey kk;obtain ⟨cs3,hcs3⟩:∃ c,cs2.setIfInBounds (o+4) (.int .u64 kk)=c:=⟨_,rfl⟩
    have HCS3:=zh hcs3;rw [hcs3] at hat3;have HAT3:=zh hat3;have HSZ3:Hid (o+5<=cs3.size):=zh hat3.sz;have hat4:=hat3.setPath (.slice (some ⟨g,0,none⟩) n c);obtain ⟨cs4,hcs4⟩:∃ c',cs3.setIfInBounds (o+2) (.slice (some ⟨g,0,none⟩) n c)=c':=⟨_,rfl⟩
    have HCS4:=zh hcs4;rw [hcs4] at hat4;have HAT4:=zh hat4;have HAL4:Hid (AlikeBut cs cs4 o):=zh (by
     have h1:=HAL.out;rw [hcs3] at h1;have h2:=AlikeBut.set cs3 o (o+2) (.slice (some ⟨g,0,none⟩) n c) (by omega) (by omega);rw [hcs4] at h2;exact h1.trans h2)
    clear he hz ga hal hm HN20 hfr hpp hn hlen hfx hup hwh hle hlv hwl hat2 hcs2 hkk hat3 hcs3 hat4 hcs4 HAL hc1 hc2;go_enter Tryz.func152,Tryz.ntmps152;go_wp2_with (first|refine sL ?_|(refine sS ?_;clear H;intros;rename_i H)|(go_at_call 172;with_reducible refine same (HPA.out _ (H.get pk) (H.get pk)) ?_));refine wp_region_h H 14 [] [] (by kernel_rfl) (by kernel_rfl) ?_;apply Exists.intro;refine ⟨fun w1 hw1 HX=>?_,fun bs wr Hr=>?_⟩
    ·refine sG ?_;repeat (first|go_big_quiet_skip|refine sQ ?_|((with_reducible refine isQLoad ?_);(refine QtLoad.rngT rfl rfl rfl (fun y=>HCR.out _ ((HX y).get (A:=rowsA encFr 265 8 (.slice (some ⟨g,0,none⟩) (n+1) c) (fs1++[f])) pk)) rfl ?_;simp only [Act.put,puA,puB,puC]))|go_big_quiet_step ((go_at_call 173;with_reducible exact quiet_st_x (HWH.out _)))|go_big_quiet_step (fail))
     exact wpQuiet_nil rfl
    clear H;have H:=Hr;clear Hr;replace H:=sH H;refine sT ?_;go_wp2_with (first|refine sL ?_|(refine sS ?_;clear H;intros;rename_i H)|((with_reducible refine isStore ?_);refine AtStore.cell H rfl rfl rfl rfl rfl (cellTy_size (isCellT_ok rfl)) (cs:=cs) pk (by have:=HSZ.out;omega) HCS2.out ?_;clear H;intro _ H;simp only [Act.put,puA,puB,puC]));replace H:St w M [blk b (.cells cs2 ty),pA X,rowsA encFr 265 8 (.slice (some ⟨g,0,none⟩) (n+1) c) (fs1++[f])] _:=H.picks (.cons pk (.cons pk (.cons pk .nil)));refine wp_region_sgx 17 [⟨[],fun v _=>v=.pointer (some ⟨b,o,none⟩)⟩,⟨[],fun v _=>v=.pointer (some ⟨b,o,none⟩)⟩,⟨[1],fun v _=>v=.pointer (some ⟨b,o,none⟩)⟩,⟨[2],fun v _=>v=.pointer (some ⟨b,o,none⟩)⟩,⟨[3],fun v _=>v=.pointer (some ⟨X.p,0,none⟩)⟩,⟨[4],fun v _=>v=.pointer (some ⟨X.K.t,0,none⟩)⟩,⟨[],fun v _=>v=.pointer (some ⟨b,o,none⟩)⟩,⟨[6],fun v _=>v=.pointer (some ⟨b,o,none⟩)⟩,⟨[7],fun v _=>v=.pointer (some ⟨b,o+3,none⟩)⟩,⟨[8],fun v _=>v=.int .i64 f.id⟩,⟨[5,9],fun v _=>v=.tuple #[.int .u64 kk,.nilIface]⟩,⟨[10],fun v _=>v=.tuple #[.int .u64 kk,.nilIface]⟩,⟨[11],fun v _=>v=.int .u64 kk⟩,⟨[11],fun v _=>v=.nilIface⟩,⟨[0],fun v _=>v=.pointer (some ⟨b,o,none⟩)⟩,⟨[14],fun v _=>v=.pointer (some ⟨b,o+4,none⟩)⟩,⟨[12,15],fun _ _=>True⟩] [10,16] [[0,1],[0],[0],[0],[0],[0],[0],[0],[0],[0],[0],[1],[1],[1,2],[1],[1],[1]] [fun _ wx=>St w M [blk b (.cells cs2 ty),pA X,rowsA encFr 265 8 (.slice (some ⟨g,0,none⟩) (n+1) c) (fs1++[f])] wx,fun _ wx=>∃ X2:Px,(X.Ext X2∧PxOk X2∧X2.S=X.S)∧St w M [blk b (.cells cs2 ty),pA X2,rowsA encFr 265 8 (.slice (some ⟨g,0,none⟩) (n+1) c) (fs1++[f])] wx,fun _ wx=>∃ X2:Px,(X.Ext X2∧PxOk X2∧X2.S=X.S)∧St w M [blk b (.cells (cs2.setIfInBounds (o+4) (.int .u64 kk)) ty),pA X2,rowsA encFr 265 8 (.slice (some ⟨g,0,none⟩) (n+1) c) (fs1++[f])] wx]
     [[],[],[(1,31)],[(2,32)],[(3,33)],[(4,34)],[],[(6,36)],[(7,37)],[(8,38)],[(5,35),(9,39)],[(10,40)],[(11,29)],[(11,29)],[(0,30)],[(14,43)],[(12,41),(15,44)]] [(0,30),(1,31),(2,32),(3,33),(4,34),(5,35),(6,36),(7,37),(8,38),(9,39),(10,40),(11,29),(12,41),(13,42),(14,43),(15,44)] (by kernel_rfl) (by kernel_rfl) H.drew ⟨⟨qo,qo,trivial⟩,⟨qo,trivial⟩,⟨qo,trivial⟩,⟨qo,trivial⟩,⟨?_,trivial⟩,⟨?_,trivial⟩,⟨qo,trivial⟩,⟨qo,trivial⟩,⟨qo,trivial⟩,⟨?_,trivial⟩,⟨?_,trivial⟩,⟨qo,trivial⟩,⟨qo,trivial⟩,⟨qo,qo,trivial⟩,⟨qo,trivial⟩,⟨qo,trivial⟩,⟨?_,trivial⟩,trivial⟩ ?_
    ·intro vals wx hd HC;simp only [GF] at hd;have H:=HC;simp only [CA] at H;simp only [PS,hd];refine StStep.celC rfl rfl rfl rfl (arr_cell (H.get (A:=blk b (.cells cs2 ty)) pk) HAT2.out.c0) ⟨rfl,HC⟩
    ·intro vals wx hd HC;simp only [GF] at hd;have h4:=hd;clear hd;have H:=HC;simp only [CA] at H;simp only [PS,h4];clear h4;go_simp;with_reducible refine zm (HKY.out _ (H.get pk)) ?_
     rintro e wc ⟨rfl,rfl⟩;first|exact ⟨_,rfl,rfl,HC⟩|exact ⟨_,rfl,HC⟩
    ·intro vals wx hd HC;simp only [GF] at hd;have H:=HC;simp only [CA] at H;simp only [PS,hd];refine StStep.celC rfl rfl rfl rfl (arr_cell (H.get (A:=blk b (.cells cs2 ty)) pk) HAT2.out.c3) ⟨rfl,HC⟩
    ·intro vals wx hd HC;simp only [GF] at hd;obtain ⟨h5,h9⟩:=hd;have H:=HC;simp only [CA] at H;simp only [PS,h5,h9];clear h5 h9 HC;go_simp;with_reducible refine zm (HKE.out _ (H.sepK HK pk pk)) ?_
     rintro e wc ⟨X2,y1,y2,y3,rfl,hb⟩;have H2:=(H.pick pk).call hb;simp only [List.cons_append,List.nil_append] at H2;exact ⟨_,rfl,rfl,X2,⟨y1,y2,y3⟩,H2.picks (.cons pk (.cons pk (.cons pk .nil)))⟩
    ·intro vals wx hd HC;simp only [GF] at hd;have H:=HC;simp only [CA] at H;obtain ⟨X2,hX2,H⟩:=H;simp only [PS,hd];refine StStep.storeC rfl rfl rfl rfl rfl rfl H (by have:=HSZ2.out;omega) ?_;intro wz H;exact ⟨trivial,X2,hX2,H⟩
    intro vals wx hd HC;simp only [CA] at HC;obtain ⟨X2,hX2,H⟩:=HC;simp only [GF] at hd;simp only [PS,hd];clear hd;have HY:=zh hX2;clear hX2;rw [HCS3.out] at H;go_wp2_with (first|refine sL ?_|(refine sS ?_;clear H;intros;rename_i H));have hnc:n<=c:=(by have:=HCB.out;omega);refine wp_region_h H 12 [] [] (by kernel_rfl) (by kernel_rfl) ?_;apply Exists.intro;refine ⟨fun w1 hw1 HX=>?_,fun bs wr Hr=>?_⟩
    ·refine sG ?_;repeat (first|go_big_quiet_skip|refine sQ ?_|((with_reducible refine isQLoad ?_);first|(refine QtLoad.cel rfl rfl rfl rfl (fun y=>arr_cell ((HX y).get (A:=blk b (.cells cs3 ty)) pk) HAT3.out.c2) ?_;simp only [Act.put,puA,puB,puC]))|go_big_quiet_step (fail))
     exact wpQuiet_nil rfl
    clear H;have H:=Hr;clear Hr;replace H:=sH H;refine sT ?_;go_wp2_with (first|refine sL ?_|(refine sS ?_;clear H;intros;rename_i H)|((with_reducible refine isStore ?_);refine AtStore.cell H rfl rfl rfl rfl rfl (cellTy_size (isCellT_ok rfl)) (cs:=cs3) pk (by have:=HSZ3.out;omega) HCS4.out ?_;clear H;intro _ H;simp only [Act.put,puA,puB,puC]));refine nR ?_;have H2:=(H.pick (A:=rowsA encFr 265 8 (.slice (some ⟨g,0,none⟩) (n+1) c) (fs1++[f])) pk).cut encFr_len HNN.out;have hsame:=HY.out.2.2;exact ⟨X2,cs4,_,fs1,f.id,kk,rfl,HY.out.1,HY.out.2.1,hsame,⟨by rw [HY.out.1.p];exact HAT4.out,by rw [hsame];exact HPP.out,by simp only;rw [hsame];exact ⟨HFR.out.den,HKK.out.symm⟩⟩,HAL4.out,H2.picks (.cons pk (.cons pk (.cons pk .nil)))⟩
   ·rw [if_neg (fun h=>hwl h.2)] at hup;rw [hup];have d1:decide ((f.hv:Int)<((wholeN f.r:Nat):Int))=true:=(by simp;omega);have d2:decide (f.hv<wholeN f.r)=true:=(by simp;omega);clear he hz ga hal hm HN20 hfr hpp hn hlen hfx hup hwh hle hlv hwl hc1 hc2;go_enter Tryz.func152,Tryz.ntmps152;go_wp2_with (first|refine sL ?_|(refine sS ?_;clear H;intros;rename_i H)|(go_at_call 172;with_reducible refine same (HPA.out _ (H.get pk) (H.get pk)) ?_));refine wp_region_h H 14 [] [] (by kernel_rfl) (by kernel_rfl) ?_;apply Exists.intro;refine ⟨fun w1 hw1 HX=>?_,fun bs wr Hr=>?_⟩
    ·refine sG ?_;repeat (first|go_big_quiet_skip|refine sQ ?_|((with_reducible refine isQLoad ?_);(refine QtLoad.rngT rfl rfl rfl (fun y=>HCR.out _ ((HX y).get (A:=rowsA encFr 265 8 (.slice (some ⟨g,0,none⟩) (n+1) c) (fs1++[f])) pk)) rfl ?_;simp only [Act.put,puA,puB,puC]))|go_big_quiet_step ((go_at_call 173;with_reducible exact quiet_st_x (HWH.out _)))|go_big_quiet_step (fail))
     exact wpQuiet_nil rfl
    clear H;have H:=Hr;clear Hr;replace H:=sH H;refine sT ?_;go_wp2_with (first|refine sL ?_|(refine sS ?_;clear H;intros;rename_i H));refine nR ?_;exact ⟨X,cs,_,_,id,ky,rfl,.refl _,hX.out,rfl,HE.out,.refl _ _,H.picks (.cons pk (.cons pk (.cons pk .nil)))⟩
  ·rw [if_neg hlv] at HPA;rw [if_neg (fun h=>hlv h.1)] at hup;rw [hup];clear he hz ga hal hm HN20 hfr hpp hn hlen hfx hup hwh hle hlv hc1 hc2;go_enter Tryz.func152,Tryz.ntmps152;go_wp2_with (first|refine sL ?_|(refine sS ?_;clear H;intros;rename_i H)|(go_at_call 172;with_reducible refine same (HPA.out _ (H.get pk) (H.get pk)) ?_));refine wp_region_h H 14 [] [] (by kernel_rfl) (by kernel_rfl) ?_;apply Exists.intro;refine ⟨fun w1 hw1 HX=>?_,fun bs wr Hr=>?_⟩
   ·refine sG ?_;repeat (first|go_big_quiet_skip|refine sQ ?_|fail|go_big_quiet_step (fail))
    exact wpQuiet_nil rfl
   clear H;have H:=Hr;clear Hr;replace H:=sH H;refine sT ?_;go_wp2_with (first|refine sL ?_|(refine sS ?_;clear H;intros;rename_i H));refine nR ?_;exact ⟨X,cs,_,_,id,ky,rfl,.refl _,hX.out,rfl,HE.out,.refl _ _,H.picks (.cons pk (.cons pk (.cons pk .nil)))⟩
theorem run_c {X:Px} {a:Tr} {bk:Bool} {m b o id ky:Nat} {ty:TypeId} {d:EndP} {cs:Array Value} {pv:Value} {fs:List Fr} (hX:PxOk X) (he:EndIn X bk cs o pv fs id ky d) (hz:EndZ a d) (ga:a.Gd) (hal:a.lv<=25339) (hm:m<9223372036854775808) (w:World) (h:(((pA X).sep ((blk b (.cells cs ty)).sep (rowsA encFr 265 8 pv fs))).sep deA).ho w) (ho:m%2=1) :
  Calls Tryz.prog 178 #[.pointer (some ⟨b,o,none⟩),.int .i64 m] w fun e w'=>e=.returned (.tuple #[.int .i64 (runT bk m d.1).1,.bool (runT bk m d.1).2])∧St w [] [] w':=by
 have HN20:∀ {n:Nat},fs.length=n+1->n<=1048576:=fun {n} hn=>by
  have h1:=he.path.len;obtain ⟨p,s⟩:=d;cases s with
  |none=>have:p=[]:=hz;subst this;rw [hn] at h1;simp at h1
  |some x=>have:=(show Zip a p x from hz).room ga;simp only at h1;omega
 rw [sep_ho] at h;have h1:=h.1;rw [sep_ho] at h1;have h2:=h1.2.1;rw [sep_ho] at h2;have hKB:=h2.1;have hKR:=h2.2.1;clear h1 h2 h;have H:=St.nil w [];obtain ⟨p,sx⟩:=d;rcases snoc_cases fs with rfl|⟨fs1,f,rfl⟩
 ·have HE:=zh he;have hp:p=[]:=List.eq_nil_of_length_eq_zero (by have:=he.path.len;simpa using this.symm);subst hp;obtain ⟨ad,c,e1,_⟩:=rowsA_shape hKR;simp only [List.length_nil] at e1;subst e1;have HK:Ks w [] [blk b (.cells cs ty)]:=Ks.one hKB;clear hKB hKR;have HPA:Hid (∀ w,(blk b (.cells cs ty)).ho w->Calls Tryz.prog 172 #[.pointer (some ⟨b,o,none⟩),.int .i64 m] w fun e w'=>e=.returned (.pointer none)∧w'=w):=zh fun w h=>parent_none (fun w h=>arr_cell h he.at_.c2) w h
  rw [show runT bk m ([]:List (Tr×Nat))=(1,false) from rfl];clear he hz ga hal hm HN20;go_enter Tryz.func178,Tryz.ntmps178;go_wp2_with (first|refine sL ?_|(refine sS ?_;clear H;intros;rename_i H)|(go_at_call 172;with_reducible refine same (HPA.out _ (H.known HK pk)) ?_));go_ret2;exact ⟨rfl,H.nix⟩
 ·have HE:=zh he;obtain ⟨q,p,rfl,hfr,hpp⟩:=he.path.last;obtain ⟨g,c,e1,hc1,hc2⟩:=rowsA_cases hKR (by simp);obtain ⟨n,hn⟩:∃ n,fs1.length=n:=⟨_,rfl⟩
  have hlen:(fs1++[f]).length=n+1:=(by simp [hn]);rw [hlen] at e1 hc1;subst e1;have HK:Ks w [] [blk b (.cells cs ty),rowsA encFr 265 8 (.slice (some ⟨g,0,none⟩) (n+1) c) (fs1++[f])]:=Ks.two hKB hKR;clear hKB hKR;have hn20:n<=1048576:=HN20 (by simpa using hlen);have hfx:(fs1++[f])[n]?=some f:=(by rw [← hn];simp);have HC0:Hid (∀ w,(rowsA encFr 265 8 (.slice (some ⟨g,0,none⟩) (n+1) c) (fs1++[f])).ho w->w.cell? ⟨g,n*8,none⟩=some (.int .i64 f.id)):=zh fun w h=>fr_cell (j:=0) h hfx rfl
  have HC5:Hid (∀ w,(rowsA encFr 265 8 (.slice (some ⟨g,0,none⟩) (n+1) c) (fs1++[f])).ho w->w.cell? ⟨g,n*8+5,none⟩=some (.int .i64 f.r.times)):=zh fun w h=>fr_cell h hfx rfl
  have HC6:Hid (∀ w,(rowsA encFr 265 8 (.slice (some ⟨g,0,none⟩) (n+1) c) (fs1++[f])).ho w->w.cell? ⟨g,n*8+6,none⟩=some (.int .i64 f.lev)):=zh fun w h=>fr_cell h hfx rfl
  have HC7:Hid (∀ w,(rowsA encFr 265 8 (.slice (some ⟨g,0,none⟩) (n+1) c) (fs1++[f])).ho w->w.cell? ⟨g,n*8+7,none⟩=some (.int .i64 f.hv)):=zh fun w h=>fr_cell h hfx rfl
  have HCR:Hid (∀ w,(rowsA encFr 265 8 (.slice (some ⟨g,0,none⟩) (n+1) c) (fs1++[f])).ho w->w.rangeAt g (n*8+1) [.int .i64 f.r.kind,.int .u8 f.r.letter,.int .i64 f.r.left,.int .i64 f.r.right,.int .i64 f.r.times]):=zh fun w h=>fr_rule h hfx
  have HPA:Hid (∀ w,(blk b (.cells cs ty)).ho w->(rowsA encFr 265 8 (.slice (some ⟨g,0,none⟩) (n+1) c) (fs1++[f])).ho w->Calls Tryz.prog 172 #[.pointer (some ⟨b,o,none⟩),.int .i64 m] w fun e w'=>e=.returned (if f.lev=m then .pointer (some ⟨g,n*8,none⟩) else .pointer none)∧w'=w):=zh fun w h1 h2=>parent_some (fs:=fs1) (Y:=(blk b (.cells cs ty)).both (rowsA encFr 265 8 (.slice (some ⟨g,0,none⟩) (n+1) c) (fs1++[f]))) (fun w h=>arr_cell h.1 he.at_.c2) hn20 (fun w h=>HC6.out w h.2) w ⟨h1,h2⟩
  have hrun:runT bk m (q::p)=if f.lev=m then (f.hv,decide (f.hv<f.r.times)) else (1,false):=by
   unfold runT;by_cases hlv:f.lev=m
   ·rw [topAt_hit (hfr.lv.trans hlv),if_pos hlv];simp only;rw [hfr.hvT,hfr.times hX.ok (by omega)]
   ·rw [topAt_miss (fun h=>hlv (hfr.lv.symm.trans h)),if_neg hlv]
  simp only [hrun];by_cases hlv:f.lev=m
  ·rw [if_pos hlv] at HPA;rw [if_pos hlv];clear he hz ga hal hm HN20 hfr hpp hn hlen hfx hrun hlv hX hc1 hc2;go_enter Tryz.func178,Tryz.ntmps178;go_wp2_with (first|refine sL ?_|(refine sS ?_;clear H;intros;rename_i H)|(go_at_call 172;with_reducible refine same (HPA.out _ (H.known HK pk) (H.known HK pk)) ?_));refine wp_region_h H 16 [] [] (by kernel_rfl) (by kernel_rfl) ?_;apply Exists.intro;refine ⟨fun w1 hw1 HX=>?_,fun bs wr Hr=>?_⟩
   ·refine sG ?_;repeat (first|go_big_quiet_skip|refine sQ ?_|((with_reducible refine isQLoad ?_);first|(refine QtLoad.cel rfl rfl rfl rfl (fun y=>HC7.out _ ((HX y).known HK (A:=rowsA encFr 265 8 (.slice (some ⟨g,0,none⟩) (n+1) c) (fs1++[f])) pk)) ?_;simp only [Act.put,puA,puB,puC])|(refine QtLoad.cel rfl rfl rfl rfl (fun y=>HC5.out _ ((HX y).known HK (A:=rowsA encFr 265 8 (.slice (some ⟨g,0,none⟩) (n+1) c) (fs1++[f])) pk)) ?_;simp only [Act.put,puA,puB,puC]))|go_big_quiet_step (fail))
    exact wpQuiet_nil rfl
   clear H;have H:=Hr;clear Hr;replace H:=sH H;refine sT ?_;go_wp2_with (first|refine sL ?_|(refine sS ?_;clear H;intros;rename_i H));go_ret2;exact ⟨rfl,H.nix⟩
  ·rw [if_neg hlv] at HPA;rw [if_neg hlv];clear he hz ga hal hm HN20 hfr hpp hn hlen hfx hrun hlv hX hc1 hc2;go_enter Tryz.func178,Tryz.ntmps178;go_wp2_with (first|refine sL ?_|(refine sS ?_;clear H;intros;rename_i H)|(go_at_call 172;with_reducible refine same (HPA.out _ (H.known HK pk) (H.known HK pk)) ?_));go_ret2;exact ⟨rfl,H.nix⟩
end
section
open Go.RowKit Go.Maps
attribute [local go_sem] InGr
theorem St.join3 {w0 w:World} {M:List Nat} {R:List As} {A B C:As} (h:St w0 M (A::B::C::R) w):St w0 M (A.sep (B.sep C)::R) w:=by
 have h1:=(h.pick2 (A:=B) (B:=C) (.there .here) (.there .here)).join;exact (h1.pick (.there .here)).join
structure DropIn (X:Px) (a:Tr) (bk:Bool) (m o:Nat) (cs cs1:Array Value) (pv1:Value) (fs1:List Fr) (p1:List (Tr×Nat)) (n1:Nat) (d':EndP):Prop where
 at_:EndAt cs1 o X.p bk pv1 0 0
 path:PathOf X.S bk p1 fs1
 zip:∃ x,Zip a p1 x
 alike:AlikeBut cs cs1 o
 hv:∀ q p',p1=q::p'->n1<=hvT bk q
 lt:n1<9223372036854775808
 way:dropT bk m n1 p1=d'
def DropRel (X:Px) (a:Tr) (bk:Bool) (m b o:Nat) (ty:TypeId) (cs:Array Value) (d':EndP) (M:List Nat) (w:World) (lv:Nat) (v1 v6 v7:Value) (wr:World):Prop :=
 ∃ (cs1:Array Value) (pv1:Value) (fs1:List Fr) (p1:List (Tr×Nat)) (n1:Nat),v1=.int .i64 n1∧v6=.int .i64 (fs1.length:Nat)∧lv=fs1.length∧DropIn X a bk m o cs cs1 pv1 fs1 p1 n1 d' ∧
  St w M [pA X,blk b (.cells cs1 ty),rowsA encFr 265 8 pv1 fs1] wr
attribute [local go_sem] StStep stAt stUpon in
theorem drop_c {X:Px} {a:Tr} {bk:Bool} {m b o id ky nt:Nat} {ty:TypeId} {d:EndP} {cs:Array Value} {pv:Value} {fs:List Fr} (hX:PxOk X) (he:EndIn X bk cs o pv fs id ky d) (hz:EndZ a d) (ga:a.Gd) (hal:a.lv<=25339) (hm:m<9223372036854775808) (hnt:∀ q p',d.1=q::p'->nt<=hvT bk q) (hnt2:nt<9223372036854775808) (w:World) (h:(((pA X).sep ((blk b (.cells cs ty)).sep (rowsA encFr 265 8 pv fs))).sep deA).ho w) :
  Calls Tryz.prog 180 #[.pointer (some ⟨b,o,none⟩),.int .i64 nt,.int .i64 m] w (EndPost X bk b o ty cs (dropT bk m nt d.1) ((pA X).sep ((blk b (.cells cs ty)).sep (rowsA encFr 265 8 pv fs))).fp w (.tuple #[])):=by
 rw [sep_ho] at h;obtain ⟨k1,k2,hdd⟩:=h;have H:=St.one k1;have HK:Ks w ((pA X).sep ((blk b (.cells cs ty)).sep (rowsA encFr 265 8 pv fs))).fp [deA]:=⟨by simpa using k2,by simpa using fun b hb hm=>hdd b hm hb⟩
 generalize ((pA X).sep ((blk b (.cells cs ty)).sep (rowsA encFr 265 8 pv fs))).fp=M at *;replace H:=H.sep;replace H:=(H.pick (.there .here)).sep;clear k1 k2 hdd;have hex:∃ x,Zip a d.1 x:=by
  obtain ⟨p,s⟩:=d;cases s with
  |none=>have:p=[]:=hz;subst this;exact ⟨a,.root⟩
  |some x=>exact ⟨x,hz⟩
 obtain ⟨d',hd'⟩:∃ d',dropT bk m nt d.1=d':=⟨_,rfl⟩
 have hat1:=(he.at_.setId 0).setKey 0;have HSZ:Hid (o+5<=cs.size):=zh he.at_.sz;have HSZa:Hid (o+5<=(cs.setIfInBounds (o+3) (.int .i64 (0:Nat))).size):=zh (by rw [Array.size_setIfInBounds];exact he.at_.sz);obtain ⟨csa,hcsa⟩:∃ c,cs.setIfInBounds (o+3) (.int .i64 0)=c:=⟨_,rfl⟩
 have HCSA:=zh hcsa;obtain ⟨csb,hcsb⟩:∃ c,csa.setIfInBounds (o+4) (.int .u64 0)=c:=⟨_,rfl⟩
 have HCSB:=zh hcsb;have hat1':EndAt csb o X.p bk pv 0 0:=(by rw [← hcsb,← hcsa];exact hat1);have hal1:AlikeBut cs csb o:=by
  have h1:=AlikeBut.set cs o (o+3) (.int .i64 0) (by omega) (by omega);have h2:=AlikeBut.set csa o (o+4) (.int .u64 0) (by omega) (by omega);rw [hcsa] at h1;rw [hcsb] at h2;exact h1.trans h2
 have HSA:Hid (o+5<=csa.size):=zh (by rw [← hcsa,Array.size_setIfInBounds];exact he.at_.sz);have HIN:Hid (DropIn X a bk m o cs csb pv fs d.1 nt d'):=zh ⟨hat1',he.path,hex,hal1,hnt,hnt2,hd'⟩;have HATB:=zh hat1';have HX:=zh hX;have HGA:=zh (za ga hal);have HM:=zh hm;obtain ⟨ad,c0,e1,hl0⟩:=rowsA_shape (H.get (A:=rowsA encFr 265 8 pv fs) pk);obtain ⟨n0,hn0⟩:∃ n,fs.length=n:=⟨_,rfl⟩
 rw [hn0] at e1;rw [hd'];have HN0:=zh hn0;have HL0:=zh hl0;subst e1;clear hX he hz ga hal hm hnt hnt2 hex hd' hat1 hcsa hcsb hat1' hal1 hn0 hl0 HSZa;go_enter Tryz.func180,Tryz.ntmps180;go_wp2_with (first|refine sL ?_|(refine sS ?_;clear H;intros;rename_i H)|((with_reducible refine isLoad ?_);first|(refine AtLoad.cel rfl rfl rfl rfl (arr_cell (H.get (A:=blk b (.cells csb ty)) pk) HATB.out.c2) ?_;simp only [Act.put,puA,puB,puC]))|((with_reducible refine isStore ?_);refine AtStore.cell H rfl rfl rfl rfl rfl (cellTy_size (isCellT_ok rfl)) (cs:=cs) pk (by have:=HSZ.out;omega) HCSA.out ?_;clear H;intro _ H;simp only [Act.put,puA,puB,puC])|((with_reducible refine isStore ?_);refine AtStore.cell H rfl rfl rfl rfl rfl (cellTy_size (isCellT_ok rfl)) (cs:=csa) pk (by have:=HSA.out;omega) HCSB.out ?_;clear H;intro _ H;simp only [Act.put,puA,puB,puC]));go_loopg [1,6,7] n0 (fun lv v1 v6 v7 wr=>DropRel X a bk m b o ty cs d' M w lv v1 v6 v7 wr);case atStart=>exact ⟨csb,_,fs,d.1,nt,rfl,by rw [HN0.out],HN0.out.symm,HIN.out,H.picks (.cons pk (.cons pk (.cons pk .nil)))⟩
 case round =>
  clear H HIN HN0 HL0 HATB HCSA HCSB HSA HSZ;obtain ⟨cs1,pv1,fs1,p1,n1,rfl,rfl,rfl,hin,H⟩:=hrel;have HAT1:=zh hin.at_;have HIN:=zh hin;rcases snoc_cases fs1 with rfl|⟨fs2,f,rfl⟩
  ·have hp:p1=[]:=List.eq_nil_of_length_eq_zero (by have:=hin.path.len;simpa using this.symm);subst hp;have hw:=hin.way;rw [show dropT bk m n1 []=([],none) from rfl] at hw;subst hw;clear hin;simp only [List.length_nil];go_wp2_with (first|refine sL ?_|(refine sS ?_;clear H;intros;rename_i H));refine nR ?_;exact ⟨X,cs1,_,_,0,0,rfl,.refl _,HX.out,rfl,⟨HIN.out.at_,HIN.out.path,rfl,rfl⟩,HIN.out.alike,H.picks (.cons pk (.cons pk (.cons pk .nil)))⟩
  ·obtain ⟨q,p,rfl,hfr,hpp⟩:=hin.path.last;obtain ⟨g,c,e1,hc1,hc2⟩:=rowsA_cases (H.get (A:=rowsA encFr 265 8 pv1 (fs2++[f])) pk) (by simp);obtain ⟨n,hn⟩:∃ n,fs2.length=n:=⟨_,rfl⟩
   have hlen:(fs2++[f]).length=n+1:=(by simp [hn]);rw [hlen] at e1 hc1;rw [hlen];subst e1;obtain ⟨xz,hxz⟩:=hin.zip;have hroom:=hxz.room HGA.out.1;have hplen:(q::p).length=n+1:=(by rw [← hin.path.len];exact hlen);have hn20:n<=1048576:=(by have:=HGA.out.2;rw [hplen] at hroom;omega);have hfx:(fs2++[f])[n]?=some f:=(by rw [← hn];simp);have hle:n1<=f.hv:=(by rw [hfr.hvT];exact hin.hv q p rfl);have hdt:=dropT_eq (bk:=bk) (m:=m) (n:=n1) (p:=p) hfr.lt;rw [← hfr.hvT,hin.way] at hdt;obtain ⟨hv2,hhv2⟩:∃ h,f.hv-n1=h:=⟨_,rfl⟩
   have d0:(f.hv:Int)-(n1:Int)=(hv2:Nat):=(by omega);have hv2b:hv2<=1152921504606846976:=(by have:=hfr.hv_le HX.out.ok;omega);obtain ⟨f2,hf2⟩:∃ f2:Fr,f2=⟨f.id,f.r,f.lev,hv2⟩:=⟨_,rfl⟩
   have HSE:Hid (encFr f2=(encFr f).set 7 (.int .i64 (hv2:Nat))):=zh (by rw [hf2];rfl);have HSET:Hid ((fs2++[f]).set n f2=fs2++[f2]):=zh (by rw [← hn];simp);have hfx2:(fs2++[f2])[n]?=some f2:=(by rw [← hn];simp);have HC7:Hid (∀ w,(rowsA encFr 265 8 (.slice (some ⟨g,0,none⟩) (n+1) c) (fs2++[f])).ho w->w.cell? ⟨g,n*8+7,none⟩=some (.int .i64 f.hv)):=zh fun w h=>fr_cell h hfx rfl
   have HD7:Hid (∀ w,(rowsA encFr 265 8 (.slice (some ⟨g,0,none⟩) (n+1) c) (fs2++[f2])).ho w->w.cell? ⟨g,n*8+7,none⟩=some (.int .i64 (hv2:Nat))):=zh fun w h=>fr_cell h hfx2 (by rw [hf2];rfl)
   have HDW:Hid (∀ w,(rowsA encFr 265 8 (.slice (some ⟨g,0,none⟩) (n+1) c) (fs2++[f2])).ho w->w.rangeAt g (n*8) [.int .i64 f.id,.int .i64 f.r.kind,.int .u8 f.r.letter,.int .i64 f.r.left,.int .i64 f.r.right,.int .i64 f.r.times,.int .i64 f.lev,.int .i64 (hv2:Nat)]):=zh fun w h=>by
    have:=rowsA_rng h encFr_len hfx2;rw [hf2] at this;exact this
   have HFX:=zh hfx;have HNN:=zh hn;have HSZ1:Hid (o+5<=cs1.size):=zh hin.at_.sz;by_cases hlt:n1<f.hv
   ·rw [if_pos hlt] at hdt;obtain ⟨q2,hq2⟩:∃ q2:Tr×Nat,(q.1,if bk then q.2+n1 else q.2-n1)=q2:=⟨_,rfl⟩
    have hj2:(if bk then q.2+n1 else q.2-n1)=q2.2:=(by rw [← hq2]);have hfr2:FrOf X.S bk q2 f2:=(by rw [← hq2,hf2,← hhv2];exact hfr.less hlt);obtain ⟨ch,hch,hdc⟩:=hfr2.child HX.out.ok;have hz2:Zip a (q2::p) ch:=by
     rw [← hq2];rw [← hq2] at hch;exact Zip.down hxz.tail.1 hch
    have hcg:=(hz2.gd HGA.out.1).1;have hcroom:=hz2.room HGA.out.1;have hgd:(kids q.1).getD (if bk then q.2+n1 else q.2-n1) q.1=ch:=by
     have:(kids q.1)[if bk then q.2+n1 else q.2-n1]?=some ch:=by rw [hj2];rw [← hq2] at hch ⊢;exact hch
     rw [List.getD_eq_getElem?_getD,this];rfl
    rw [hgd,hq2] at hdt;have d1:decide ((0:Int)<((hv2:Nat):Int))=true:=(by simp;omega);have d2:decide (0<hv2)=true:=(by simp;omega);obtain ⟨ci,hci⟩:∃ ci,childN bk f2=ci:=⟨_,rfl⟩
    have HCH:Hid (∀ w,Calls Tryz.prog 160 #[.agg #[.int .i64 f.id,.int .i64 f.r.kind,.int .u8 f.r.letter,.int .i64 f.r.left,.int .i64 f.r.right,.int .i64 f.r.times,.int .i64 f.lev,.int .i64 (hv2:Nat)],.bool bk] w fun e w'=>e=.returned (.int .i64 ci)∧St w [] [] w'):=zh fun w=>by
     have:=child_c f2 bk w;rw [hci,hf2] at this;exact this
    rw [hci] at hdc;have hat2:=hin.at_.setId ci;obtain ⟨cs2,hcs2⟩:∃ c,cs1.setIfInBounds (o+3) (.int .i64 ci)=c:=⟨_,rfl⟩
    have HCS2:=zh hcs2;rw [hcs2] at hat2;have HAL:Hid (AlikeBut cs cs2 o):=zh (by
     have h1:=AlikeBut.set cs1 o (o+3) (.int .i64 ci) (by omega) (by omega);rw [hcs2] at h1;exact hin.alike.trans h1)
    have hpath2:PathOf X.S bk (q2::p) (fs2++[f2]):=⟨fs2,f2,rfl,hfr2,hpp⟩
    have hlen2:(fs2++[f2]).length=n+1:=(by simp [hn]);have HDN:Hid (∀ w,(((pA X).sep ((blk b (.cells cs2 ty)).sep (rowsA encFr 265 8 (.slice (some ⟨g,0,none⟩) (n+1) c) (fs2++[f2])))).sep deA).ho w->Calls Tryz.prog 161 #[.pointer (some ⟨b,o,none⟩),.int .i64 m] w fun e w'=>∃ (X':Px) (cs':Array Value) (pv':Value) (fs':List Fr) (id':Nat),e=.returned (.tuple #[])∧X.Ext X'∧PxOk X'∧X'.S=X.S∧EndAt cs' o X.p bk pv' id' d'.2.get!.key∧AlikeBut cs2 cs' o∧PathOf X'.S bk d'.1 fs'∧Den X'.S id' d'.2.get!∧St w ((pA X).sep ((blk b (.cells cs2 ty)).sep (rowsA encFr 265 8 (.slice (some ⟨g,0,none⟩) (n+1) c) (fs2++[f2])))).fp [pA X',blk b (.cells cs' ty),rowsA encFr 265 8 pv' fs'] w'):=zh fun w h=>by
     rw [hdt];exact down_c HX.out hat2 hdc hcg hpath2 (lim:=1048576) (by omega) (by have:=HGA.out.2;simp only [List.length_cons] at hcroom hplen;rw [hlen2];omega) HM.out w h
    have hsome:d'.2=some d'.2.get!:=(by rw [hdt];rfl);have HSOME:=zh hsome;clear hin hfr hpp hlen hxz hroom hplen hfx hle hdt hhv2 hf2 hfx2 hlt hq2 hj2 hfr2 hch hdc hz2 hcg hcroom hgd hci hat2 hcs2 hpath2 hlen2 hsome hn hc1 hc2;go_wp2_with (first|refine sL ?_|(refine sS ?_;clear H;intros;rename_i H)|((with_reducible refine isLoad ?_);first|(refine AtLoad.cel rfl rfl rfl rfl (arr_cell (H.get (A:=blk b (.cells cs1 ty)) pk) HAT1.out.c2) ?_;simp only [Act.put,puA,puB,puC])|(refine AtLoad.cel rfl rfl rfl rfl (HC7.out _ (H.get pk)) ?_;simp only [Act.put,puA,puB,puC])|(refine AtLoad.cel rfl rfl rfl rfl (HD7.out _ (H.get pk)) ?_;simp only [Act.put,puA,puB,puC]))|((with_reducible refine isStore ?_);refine AtStore.rowAk (enc:=encFr) (k:=8) (n:=n+1) (c:=c) (i:=n) (j:=7) H rfl rfl rfl rfl rfl rfl pk encFr_len HFX.out (by omega) rfl f2 HSE.out ?_;clear H;intro _ H;rw [HSET.out] at H;simp only [Act.put,puA,puB,puC]));refine wp_region_h H 9 [] [] (by kernel_rfl) (by kernel_rfl) ?_;apply Exists.intro;refine ⟨fun w1 hw1 HX=>?_,fun bs wr Hr=>?_⟩
    ·refine sG ?_;repeat (first|go_big_quiet_skip|refine sQ ?_|((with_reducible refine isQLoad ?_);first|(refine QtLoad.rngT rfl rfl rfl (fun y=>HDW.out _ ((HX y).get (A:=rowsA encFr 265 8 (.slice (some ⟨g,0,none⟩) (n+1) c) (fs2++[f2])) pk)) rfl ?_;simp only [Act.put,puA,puB,puC])|(refine QtLoad.cel rfl rfl rfl rfl (fun y=>arr_cell ((HX y).get (A:=blk b (.cells cs1 ty)) pk) HAT1.out.c1) ?_;simp only [Act.put,puA,puB,puC]))|go_big_quiet_step ((go_at_call 160;with_reducible exact quiet_st_x (HCH.out _)))|go_big_quiet_step (fail))
     exact wpQuiet_nil rfl
    clear H;have H:=Hr;clear Hr;replace H:=sH H;refine sT ?_;go_wp2_with (first|refine sL ?_|(refine sS ?_;clear H;intros;rename_i H)|((with_reducible refine isStore ?_);refine AtStore.cell H rfl rfl rfl rfl rfl (cellTy_size (isCellT_ok rfl)) (cs:=cs1) pk (by have:=HSZ1.out;omega) HCS2.out ?_;clear H;intro _ H;simp only [Act.put,puA,puB,puC])|(go_at_call 161;with_reducible refine zm (HDN.out _ ((St.join3 (H.pick3 (A:=pA X) (B:=blk b (.cells cs2 ty)) (C:=rowsA encFr 265 8 (.slice (some ⟨g,0,none⟩) (n+1) c) (fs2++[f2])) pk pk pk)).sepK HK pk pk)) ?_;rintro e wc ⟨X2,cs3,pv3,fs3,id3,rfl,y1,y2,y3,y4,y5,y6,y7,hb⟩;have HY:=zh (za y1 (za y2 (za y3 (za y4 (za y5 (za y6 y7))))));clear y1 y2 y3 y4 y5 y6 y7;replace H:=zn ((St.join3 (H.pick3 (A:=pA X) (B:=blk b (.cells cs2 ty)) (C:=rowsA encFr 265 8 (.slice (some ⟨g,0,none⟩) (n+1) c) (fs2++[f2])) pk pk pk)).call hb);clear hb));refine nR ?_;have hy:=HY.out;refine ⟨X2,cs3,pv3,fs3,id3,_,rfl,hy.1,hy.2.1,hy.2.2.1,⟨by rw [hy.1.p];exact hy.2.2.2.1,hy.2.2.2.2.2.1,?_⟩,HAL.out.trans hy.2.2.2.2.1,H.picks (.cons pk (.cons pk (.cons pk .nil)))⟩;rw [HSOME.out];exact ⟨hy.2.2.2.2.2.2,rfl⟩
   ·rw [if_neg hlt] at hdt;obtain rfl:hv2=0:=by omega
    have hat2:=hin.at_.setPath (.slice (some ⟨g,0,none⟩) n c);obtain ⟨cs2,hcs2⟩:∃ c',cs1.setIfInBounds (o+2) (.slice (some ⟨g,0,none⟩) n c)=c':=⟨_,rfl⟩
    have HCS2:=zh hcs2;rw [hcs2] at hat2;have HAT2:=zh hat2;have HNEXT:Hid (DropIn X a bk m o cs cs2 (.slice (some ⟨g,0,none⟩) n c) fs2 p 1 d'):=zh ⟨hat2,hpp,⟨_,hxz.tail.1⟩,by
     have h1:=AlikeBut.set cs1 o (o+2) (.slice (some ⟨g,0,none⟩) n c) (by omega) (by omega);rw [hcs2] at h1;exact hin.alike.trans h1,fun q' p' e=>by
      have:=hxz.tail.1.lt q' (by rw [e];simp);unfold hvT;cases bk <;> simp <;> omega,by omega,hdt.symm⟩
    have HCB:=zh (za hc1 hc2);clear hin hfr hpp hlen hxz hroom hplen hfx hle hdt hhv2 hf2 hfx2 hlt hat2 hcs2 hn;go_wp2_with (first|refine sL ?_|(refine sS ?_;clear H;intros;rename_i H)|((with_reducible refine isLoad ?_);first|(refine AtLoad.cel rfl rfl rfl rfl (arr_cell (H.get (A:=blk b (.cells cs1 ty)) pk) HAT1.out.c2) ?_;simp only [Act.put,puA,puB,puC])|(refine AtLoad.cel rfl rfl rfl rfl (HC7.out _ (H.get pk)) ?_;simp only [Act.put,puA,puB,puC])|(refine AtLoad.cel rfl rfl rfl rfl (HD7.out _ (H.get pk)) ?_;simp only [Act.put,puA,puB,puC]))|((with_reducible refine isStore ?_);refine AtStore.rowAk (enc:=encFr) (k:=8) (n:=n+1) (c:=c) (i:=n) (j:=7) H rfl rfl rfl rfl rfl rfl pk encFr_len HFX.out (by omega) rfl f2 HSE.out ?_;clear H;intro _ H;rw [HSET.out] at H;simp only [Act.put,puA,puB,puC])|((with_reducible refine isStore ?_);refine AtStore.cell H rfl rfl rfl rfl rfl (cellTy_size (isCellT_ok rfl)) (cs:=cs1) pk (by have:=HSZ1.out;omega) HCS2.out ?_;clear H;intro _ H;simp only [Act.put,puA,puB,puC])|((with_reducible refine isLoad ?_);first|(refine AtLoad.cel rfl rfl rfl rfl (arr_cell (H.get (A:=blk b (.cells cs2 ty)) pk) HAT2.out.c2) ?_;simp only [Act.put,puA,puB,puC])));have H2:=(H.pick (A:=rowsA encFr 265 8 (.slice (some ⟨g,0,none⟩) (n+1) c) (fs2++[f2])) pk).cut encFr_len HNN.out;clear H;go_roundg n;case measure=>have:=HNN.out;simp;omega
    case rel=>exact ⟨cs2,_,fs2,p,1,rfl,by rw [HNN.out],HNN.out.symm,HNEXT.out,H2.picks (.cons pk (.cons pk (.cons pk .nil)))⟩
end
end Go.Proofs.YtgnppnokkdghcaaGreatDoor
