/-
  Part 4 of the texts behind the statements of this seat: walks and laws Bs, Bt, Bu, Bv, Ca, Cb, Cc, Cd, Ce, Cf, Ag, Ah, Cg, Gk, Gl, Ch, Ci, Cj, Cl, Cm, Cn, Co, Cs, Ct, Cu, Cw, Cp. Conditions: as each states.
-/
import Derived.Test.YtgnppnokkdghcaaGreatDoorAs3
import Derived.Lib.Overlaps
set_option linter.unusedSimpArgs false
set_option linter.unusedVariables false
set_option maxRecDepth 100000
set_option maxHeartbeats 80000000
namespace Go.Proofs.YtgnppnokkdghcaaGreatDoor
section
open Go.RowKit Go.Maps
attribute [local go_sem] InGr
section
variable {ops:Array Oper} {a:Act} {w:World} {o:Oper} {Rr:Value→World→Prop}
theorem run_seg {t e:TypeId} (hte:sliceO t=some e) {z:Value} {bytes:Nat} (hi:infoO e=some (z,1,bytes)) {g n c l h:Nat} (h1:l≤h) (h2:h≤c) (w:World) :
  (Instr.sliceAt t (.slice (some ⟨g,0,none⟩) n c) (some (.int .i64 (l:Nat))) (some (.int .i64 (h:Nat))) none).run Tryz.prog w=.ok (.slice (some ⟨g,if c=l then 0 else l,none⟩) (h-l) (c-l)) w:=by
 obtain ⟨i,e2,e3,e4,e5⟩:=infoO_ok hi
 have hu:=sliceO_ok hte
 have hb:(Instr.sliceBound (Value.int .i64 (h:Nat)) c .sliceAcap).run Tryz.prog w=.ok h w:=by
  unfold Instr.sliceBound
  simp [asIntOf,h2]
 have hb2:(Instr.sliceBound (Value.int .i64 (l:Nat)) h .sliceB).run Tryz.prog w=.ok l w:=by
  unfold Instr.sliceBound
  simp [asIntOf,h1]
 by_cases hcl:c=l
 ·subst hcl;simp [Instr.sliceAt,Instr.slice,Instr.sliceBounds,run_underlying hu,sizeOf,typeInfo,e2,Sem.run_bind,Result.andThen,hb,hb2,Addr.add]
 ·simp [Instr.sliceAt,Instr.slice,Instr.sliceBounds,run_underlying hu,sizeOf,typeInfo,e2,Sem.run_bind,Result.andThen,hb,hb2,Addr.add,hcl,e4]
  try omega
theorem run_segL {t e:TypeId} (hte:sliceO t=some e) {z:Value} {bytes:Nat} (hi:infoO e=some (z,1,bytes)) {g n c l:Nat} (h1:l≤n) (w:World) :
  (Instr.sliceAt t (.slice (some ⟨g,0,none⟩) n c) (some (.int .i64 (l:Nat))) none none).run Tryz.prog w=.ok (.slice (some ⟨g,if c=l then 0 else l,none⟩) (n-l) (c-l)) w:=by
 obtain ⟨i,e2,e3,e4,e5⟩:=infoO_ok hi
 have hu:=sliceO_ok hte
 have hb2:(Instr.sliceBound (Value.int .i64 (l:Nat)) n .sliceB).run Tryz.prog w=.ok l w:=by
  unfold Instr.sliceBound
  simp [asIntOf,h1]
 by_cases hcl:c=l
 ·simp [Instr.sliceAt,Instr.slice,Instr.sliceBounds,run_underlying hu,sizeOf,typeInfo,e2,Sem.run_bind,Result.andThen,hb2,Addr.add,hcl]
 ·simp [Instr.sliceAt,Instr.slice,Instr.sliceBounds,run_underlying hu,sizeOf,typeInfo,e2,Sem.run_bind,Result.andThen,hb2,Addr.add,hcl,e4]
  try omega
theorem StStep.seg {t e:TypeId} {x y y2:Operand} (hw:Region.wanted o (yielded ops a.tmps)=true) (ho:o.op=.slice t x (some y) (some y2) none) (hte:sliceO t=some e) {z:Value} {bytes:Nat} (hi:infoO e=some (z,1,bytes)) {g n c l h:Nat} (hx:a.eval x=.slice (some ⟨g,0,none⟩) n c) (hy:a.eval y=.int .i64 (l:Nat)) (hy2:a.eval y2=.int .i64 (h:Nat)) (h2:h≤c) {m cr:Nat} (hm:h=l+m) (hcr:c-l=cr)
  {of:Nat} (hof:of=if c=l then 0 else l) (hR:Rr (.slice (some ⟨g,of,none⟩) m cr) w):StStep Tryz.prog ops o a w Rr :=
 StStep.val hw (by unfold execOp;simp only [ho,hx,hy,hy2,Option.map_none,Option.map_some,Sem.run_bind,run_seg hte hi (show l≤h by omega) h2,Result.andThen_ok,Sem.run_pure,← hof,hcr,show h-l=m by omega]) hR
theorem StStep.segL {t e:TypeId} {x y:Operand} (hw:Region.wanted o (yielded ops a.tmps)=true) (ho:o.op=.slice t x (some y) none none) (hte:sliceO t=some e) {z:Value} {bytes:Nat} (hi:infoO e=some (z,1,bytes)) {g n c l:Nat} (hx:a.eval x=.slice (some ⟨g,0,none⟩) n c) (hy:a.eval y=.int .i64 (l:Nat)) {m cr:Nat} (hm:n=l+m) (hcr:c-l=cr)
  {of:Nat} (hof:of=if c=l then 0 else l) (hR:Rr (.slice (some ⟨g,of,none⟩) m cr) w):StStep Tryz.prog ops o a w Rr :=
 StStep.val hw (by unfold execOp;simp only [ho,hx,hy,Option.map_none,Option.map_some,Sem.run_bind,run_segL hte hi (show l≤n by omega),Result.andThen_ok,Sem.run_pure,← hof,hcr,show n-l=m by omega]) hR
end
theorem seg_new {w:World} {g c l:Nat} {C:Array Value} {e:TypeId} {cap a:Nat} {f:Nat→Value} {new old:List Nat} {of m:Nat} (h:w.heap[g]?=some (.cells C e)) (hA:Arr C cap f new old a) (ha:a≤l) (hof:of=if c=l then 0 else l) (hlc:m≠0→l<c) (hm:l+m≤old.length) :
  ∀ (i:Nat) (u:Value),(((old.drop l).take m).map f)[i]?=some u→w.cell? ⟨g,of+i,none⟩=some u:=by
 intro i u hu
 rw [List.getElem?_map] at hu
 cases hx:((old.drop l).take m)[i]? with
 |none=>rw [hx] at hu;simp at hu
 |some x =>
  rw [hx] at hu
  simp at hu
  subst hu
  have hi:i<m:=by
   have:=gelt hx
   rw [List.length_take] at this
   omega
  have hlt:=hlc (by omega)
  rw [hof,if_neg (by omega)]
  rw [List.getElem?_take,if_pos hi,List.getElem?_drop] at hx
  rw [cell_of_row w g (l+i) C e (0,0) h]
  exact hA.od (l+i) x (by omega) hx
theorem pairIx_none {f:Nat→Nat→Bool} {F:Tr→Tr→Bool} (hF:∀ x y,F x y=f x.key y.key):∀ (l:List Tr) (o:Nat),pairIx f o (l.map Tr.key)=[]→pairsF F l=l
 |[],_,_=>rfl
 |[x],_,_=>rfl
 |x::y::r,o,h=>by
  simp only [List.map_cons,pairIx] at h
  split at h
  ·simp at h
  ·rename_i hf
   rw [pairsF,if_neg (by rw [hF];exact hf),pairIx_none hF (y::r) (o+1) (by simpa using h)]
theorem pairIx_step {f:Nat→Nat→Bool} {F:Tr→Tr→Bool} (hF:∀ x y,F x y=f x.key y.key):∀ (l:List Tr) (o i:Nat) (rest:List Nat),pairIx f o (l.map Tr.key)=i::rest →
  ∃ (A:List Tr) (x y:Tr) (r:List Tr),l=A++x::y::r∧i=o+A.length∧rest=pairIx f (i+2) (r.map Tr.key)∧pairsF F l=A ++ .pair x y::pairsF F r
 |[],_,_,_,h=>by simp [pairIx] at h
 |[x],_,_,_,h=>by simp [pairIx] at h
 |x::y::r,o,i,rest,h=>by
  simp only [List.map_cons,pairIx] at h
  split at h
  ·rename_i hf
   injection h with h1 h2
   subst h1
   exact ⟨[],x,y,r,rfl,rfl,h2.symm,by rw [pairsF,if_pos (by rw [hF];exact hf)];rfl⟩
  ·rename_i hf
   obtain ⟨A,x',y',r',e1,e2,e3,e4⟩:=pairIx_step hF (y::r) (o+1) i rest (by simpa using h)
   exact ⟨x::A,x',y',r',by rw [e1];rfl,by simp;omega,e3,by rw [pairsF,if_neg (by rw [hF];exact hf),e4];rfl⟩
structure PairsIn (X X':Px) (L:Nat) (ts:List Tr) (ids ix:List Nat) (j at_ kn:Nat) (C K:Array Value) (ci ck:Nat) (nids:List Nat) (new:List Tr):Prop where
 ext:X.Ext X'
 ok:PxOk X'
 hj:j≤ix.length
 hat:at_≤ids.length
 hkn:kn≤at_
 nl:nids.length=kn
 eqp:pairsF (fits L) ts=new++pairsF (fits L) (ts.drop at_)
 rem:pairIx (fun x y=>fitsN x y L) at_ ((ts.drop at_).map Tr.key)=ix.drop j
 den:DenL X'.S nids new
 i:Arr C ci fI nids ids at_
 kk:Arr K ck fU (new.map Tr.key) (ts.map Tr.key) at_
 size:X'.S.list.length+kn≤X.S.list.length+at_
structure PNext (X:Px) (L:Nat) (ts:List Tr) (ids ix:List Nat) (j at_ i m a b:Nat) (x y:Tr):Prop where
 him:i=at_+m
 hin:i+2≤ids.length
 ia:ids[i]?=some a
 ib:ids[i+1]?=some b
 da:Den X.S a x
 db:Den X.S b y
 len:x.len+y.len≤lenL ts
 rem:pairIx (fun x y=>fitsN x y L) (i+2) ((ts.drop (i+2)).map Tr.key)=ix.drop (j+1)
 eqp:pairsF (fits L) (ts.drop at_)=(ts.drop at_).take m ++ .pair x y::pairsF (fits L) (ts.drop (i+2))
theorem PairsIn.next {X X':Px} {L:Nat} {ts:List Tr} {ids ix:List Nat} {j at_ kn i:Nat} {C K:Array Value} {ci ck:Nat} {nids:List Nat} {new:List Tr} (h:PairsIn X X' L ts ids ix j at_ kn C K ci ck nids new) (hq:DenL X.S ids ts) (hj:ix[j]?=some i):∃ m a b x y,PNext X L ts ids ix j at_ i m a b x y:=by
 have e0:ix.drop j=i::ix.drop (j+1):=by
  have:=List.drop_eq_getElem_cons (l:=ix) (i:=j) (gelt hj)
  rw [this]
  congr 1
  exact (List.getElem?_eq_some_iff.1 hj).2
 obtain ⟨A,x,y,r,e1,e2,e3,e4⟩:=pairIx_step (F:=fits L) (fun x y=>rfl) _ _ _ _ (h.rem.trans e0)
 have hl:=hq.len
 have hdl:=congrArg List.length e1
 simp only [List.length_drop,List.length_append,List.length_cons] at hdl
 have hx:ts[i]?=some x:=by
  have:(ts.drop at_)[A.length]?=some x:=by rw [e1,List.getElem?_append_right (Nat.le_refl _),Nat.sub_self];rfl
  rw [List.getElem?_drop] at this
  rw [e2];exact this
 have hy:ts[i+1]?=some y:=by
  have:(ts.drop at_)[A.length+1]?=some y:=by rw [e1,List.getElem?_append_right (by omega),show A.length+1-A.length=1 by omega];rfl
  rw [List.getElem?_drop] at this
  rw [e2,Nat.add_assoc];exact this
 have hr:r=ts.drop (i+2):=by
  have:(ts.drop at_).drop (A.length+2)=r:=by
   rw [e1,show A.length+2=A.length+1+1 by omega,← List.drop_drop,← List.drop_drop,List.drop_left]
   rfl
  rw [← this,List.drop_drop]
  congr 1;omega
 obtain ⟨a,ha⟩:∃ a,ids[i]?=some a:=⟨_,List.getElem?_eq_getElem (by omega)⟩
 obtain ⟨b,hb⟩:∃ b,ids[i+1]?=some b:=⟨_,List.getElem?_eq_getElem (by omega)⟩
 obtain ⟨x',hx',da⟩:=hq.get ha
 obtain ⟨y',hy',db⟩:=hq.get hb
 rw [hx] at hx'
 rw [hy] at hy'
 injection hx' with hx'
 injection hy' with hy'
 subst hx' hy'
 refine ⟨A.length,a,b,x,y,e2,by omega,ha,hb,da,db,?_,by rw [← hr];exact e3.symm,?_⟩
 ·have e5:lenL ts=lenL (ts.take at_)+lenL (ts.drop at_):=by rw [← lenL_append,List.take_append_drop]
  rw [e1,lenL_append,lenL_cons,lenL_cons] at e5
  omega
 ·rw [e4,e1,List.take_left,← hr]
theorem PairsIn.start {X:Px} {L:Nat} {ts:List Tr} {ids:List Nat} {C K:Array Value} {ci ck:Nat} (hX:PxOk X) (h:SeqIn X C K ci ck ids ts):PairsIn X X L ts ids (pairIx (fun x y=>fitsN x y L) 0 (ts.map Tr.key)) 0 0 0 C K ci ck [] [] :=
 ⟨.refl _,hX,Nat.zero_le _,Nat.zero_le _,Nat.le_refl _,rfl,rfl,rfl,trivial,h.i.start,h.k.start,Nat.le_refl _⟩
theorem PairsIn.step {X X1 X2:Px} {L:Nat} {ts:List Tr} {ids ix:List Nat} {j at_ kn i m a b id ky:Nat} {C K:Array Value} {ci ck:Nat} {nids:List Nat} {new:List Tr} {x y:Tr} (h:PairsIn X X1 L ts ids ix j at_ kn C K ci ck nids new) (hq:DenL X.S ids ts) (hX:X.S.Ok) (hn:PNext X L ts ids ix j at_ i m a b x y) (hj:ix[j]?=some i) (ext:X1.Ext X2) (ok:PxOk X2) (hid:Den X2.S id (.pair x y)) (hky:(Tr.pair x y).key=ky) (hsz:X2.S.list.length≤X1.S.list.length+1) (hci:ids.length≤ci) (hck:ids.length≤ck) :
  PairsIn X X2 L ts ids ix (j+1) (i+2) (kn+m+1) (putC (putC C kn (((ids.drop at_).take m).map fI)) (kn+m) [.int .i64 id]) (putC (putC K kn ((((ts.map Tr.key).drop at_).take m).map fU)) (kn+m) [.int .u64 ky]) ci ck (nids++(ids.drop at_).take m++[id]) (new++(ts.drop at_).take m++[.pair x y]):=by
 have hl:=hq.len
 have hkn:=h.hkn
 have hat:=h.hat
 have him:=hn.him
 have hin:=hn.hin
 have hml:((ids.drop at_).take m).length=m:=by rw [List.length_take,List.length_drop];omega
 have hmk:(((ts.map Tr.key).drop at_).take m).length=m:=by rw [List.length_take,List.length_drop,List.length_map];omega
 have hnew:new.length=kn:=by rw [← h.den.len,h.nl]
 have hnk:(new.map Tr.key).length=kn:=by rw [List.length_map,hnew]
 refine ⟨h.ext.trans ext,ok,gelt hj,hin,by omega,by rw [List.length_append,List.length_append,hml,h.nl];rfl,?_,hn.rem,?_,?_,?_,?_⟩
 ·rw [h.eqp,hn.eqp];simp
 ·exact ((h.den.le h.ok.ok ext.le).append (((hq.le hX (h.ext.trans ext).le).drop at_).take m)).append ⟨hid,trivial⟩
 ·have h1:=h.i.app ((ids.drop at_).take m) (a':=i) (by omega) (by rw [hml,h.nl];omega) (by rw [hml,h.nl];omega)
  rw [h.nl] at h1
  have h2:=h1.app [id] (a':=i+2) (by omega) (by simp [hml,h.nl];omega) (by simp [hml,h.nl];omega)
  rw [List.length_append,hml,h.nl] at h2
  exact h2
 ·have h1:=h.kk.app (((ts.map Tr.key).drop at_).take m) (a':=i) (by omega) (by rw [hmk,hnk];omega) (by rw [hmk,hnk];omega)
  rw [hnk] at h1
  have h2:=h1.app [ky] (a':=i+2) (by omega) (by rw [List.length_append,hmk,hnk];simp;omega) (by rw [List.length_append,hmk,hnk];simp;omega)
  rw [List.length_append,hmk,hnk] at h2
  have e7:(new++(ts.drop at_).take m++[Tr.pair x y]).map Tr.key=new.map Tr.key++((ts.map Tr.key).drop at_).take m++[ky]:=by
   simp only [List.map_append,List.map_cons,List.map_nil,hky,List.map_take,List.map_drop]
  rw [e7]
  exact h2
 ·have:=h.size;omega
end
section
open Go.RowKit Go.Maps
attribute [local go_sem] InGr
def PairsRel (X:Px) (L:Nat) (ts:List Tr) (ids ix:List Nat) (gi gk ci ck b3 b4 b8 n nx cp:Nat) (ad:Option Addr) (M:List Nat) (w:World) (v9 v27:Value) (wr:World):Prop :=
 ∃ (X':Px) (j at_ kn:Nat) (CI CK:Array Value) (nids:List Nat) (new:List Tr),v9=.int .i64 at_∧v27=.int .i64 j∧PairsIn X X' L ts ids ix j at_ kn CI CK ci ck nids new ∧
  St w M [pA X',blk gi (.cells (CI) 26),blk gk (.cells (CK) 74),blk b3 (.cells #[.slice (some ⟨gi,0,none⟩) n ci,.slice (some ⟨gk,0,none⟩) n ck] 122),blk b4 (.cells #[.slice none 0 0,.slice none 0 0] 122),blk b8 (.cells #[.slice (some ⟨gi,0,none⟩) kn ci,.slice (some ⟨gk,0,none⟩) kn ck] 122),rowsA encI 3 1 (.slice ad nx cp) ix] wr
structure Hid2 (p q:Prop):Prop where
 out1:p
 out2:q
theorem PairsIn.mid {X X1:Px} {L:Nat} {ts:List Tr} {ids ix:List Nat} {j at_ kn i m a b:Nat} {C K:Array Value} {ci ck:Nat} {nids:List Nat} {new:List Tr} {x y:Tr} (h:PairsIn X X1 L ts ids ix j at_ kn C K ci ck nids new) (hq:DenL X.S ids ts) (hn:PNext X L ts ids ix j at_ i m a b x y) (hci:ids.length≤ci) (hck:ids.length≤ck) :
  Arr (putC C kn (((ids.drop at_).take m).map fI)) ci fI (nids++(ids.drop at_).take m) ids i∧Arr (putC K kn ((((ts.map Tr.key).drop at_).take m).map fU)) ck fU (new.map Tr.key++((ts.map Tr.key).drop at_).take m) (ts.map Tr.key) i:=by
 have hl:=hq.len
 have hkn:=h.hkn
 have hat:=h.hat
 have him:=hn.him
 have hin:=hn.hin
 have hml:((ids.drop at_).take m).length=m:=by rw [List.length_take,List.length_drop];omega
 have hmk:(((ts.map Tr.key).drop at_).take m).length=m:=by rw [List.length_take,List.length_drop,List.length_map];omega
 have hnew:new.length=kn:=by rw [← h.den.len,h.nl]
 have hnk:(new.map Tr.key).length=kn:=by rw [List.length_map,hnew]
 constructor
 ·have h1:=h.i.app ((ids.drop at_).take m) (a':=i) (by omega) (by rw [hml,h.nl];omega) (by rw [hml,h.nl];omega)
  rwa [h.nl] at h1
 ·have h1:=h.kk.app (((ts.map Tr.key).drop at_).take m) (a':=i) (by omega) (by rw [hmk,hnk];omega) (by rw [hmk,hnk];omega)
  rwa [hnk] at h1
theorem PairsIn.short {X X1:Px} {L:Nat} {ts:List Tr} {ids ix:List Nat} {j at_ kn i m a b:Nat} {C K:Array Value} {ci ck:Nat} {nids:List Nat} {new:List Tr} {x y:Tr} (h:PairsIn X X1 L ts ids ix j at_ kn C K ci ck nids new) (hq:DenL X.S ids ts) (hn:PNext X L ts ids ix j at_ i m a b x y):X1.S.list.length+(pairsF (fits L) ts).length<X.S.list.length+ids.length:=by
 have hl:=hq.len
 have h1:=h.size
 have hnew:new.length=kn:=by rw [← h.den.len,h.nl]
 have h2:=pairs_len (fits L) (ts.drop (i+2))
 have him:=hn.him
 have hin:=hn.hin
 rw [h.eqp,hn.eqp]
 simp only [List.length_append,List.length_cons,List.length_take,List.length_drop] at h2 ⊢
 omega
theorem PairsIn.last {X X1:Px} {L:Nat} {ts:List Tr} {ids ix:List Nat} {j at_ kn m:Nat} {C K:Array Value} {ci ck:Nat} {nids:List Nat} {new:List Tr} (h:PairsIn X X1 L ts ids ix j at_ kn C K ci ck nids new) (hq:DenL X.S ids ts) (hX:X.S.Ok) (hj:j=ix.length) (hm:ids.length=at_+m) (hci:ids.length≤ci) (hck:ids.length≤ck) :
  SeqIn X1 (putC C kn (((ids.drop at_).take m).map fI)) (putC K kn ((((ts.map Tr.key).drop at_).take m).map fU)) ci ck (nids++(ids.drop at_).take m) (pairsF (fits L) ts)∧(pairsF (fits L) ts).length=kn+m∧X1.S.list.length+(kn+m)≤X.S.list.length+ids.length:=by
 have hl:=hq.len
 have hkn:=h.hkn
 have hml:((ids.drop at_).take m).length=m:=by rw [List.length_take,List.length_drop];omega
 have hmk:(((ts.map Tr.key).drop at_).take m).length=m:=by rw [List.length_take,List.length_drop,List.length_map];omega
 have hnew:new.length=kn:=by rw [← h.den.len,h.nl]
 have hnk:(new.map Tr.key).length=kn:=by rw [List.length_map,hnew]
 have hrem:=h.rem
 rw [hj,List.drop_length] at hrem
 have e:=h.eqp
 rw [pairIx_none (F:=fits L) (fun x y=>rfl) _ _ hrem] at e
 have et:(ts.drop at_).take m=ts.drop at_:=List.take_of_length_le (by rw [List.length_drop];omega)
 have hsz:=h.size
 refine ⟨⟨?_,?_,?_⟩,?_,by omega⟩
 ·rw [e,← et]
  exact h.den.append (((hq.le hX h.ext.le).drop at_).take m)
 ·have h1:=h.i.app ((ids.drop at_).take m) (a':=ids.length) (by omega) (by rw [hml,h.nl];omega) (by rw [hml,h.nl];omega)
  rw [h.nl] at h1
  exact h1.forget
 ·have h1:=h.kk.app (((ts.map Tr.key).drop at_).take m) (a':=ids.length) (by omega) (by rw [hmk,hnk];omega) (by rw [hmk,hnk];omega)
  rw [hnk] at h1
  have e7:(pairsF (fits L) ts).map Tr.key=new.map Tr.key++((ts.map Tr.key).drop at_).take m:=by
   rw [e,List.map_append,← et,List.map_take,List.map_drop]
  rw [e7]
  exact h1.forget
 ·rw [e,List.length_append,hnew,List.length_drop];omega
theorem pk_lt (ts:List Tr):∀ k∈ts.map Tr.key,k<2305843009213693951:=by
 intro k hk
 obtain ⟨t,_,rfl⟩:=List.mem_map.1 hk
 exact t.key_lt
attribute [local go_sem] StStep stAt stUpon in
theorem pairs_p {X:Px} {gi gk ci ck L:Nat} {CI CK:Array Value} {ids:List Nat} {ts:List Tr} (hX:PxOk X) (hq:SeqIn X CI CK ci ck ids ts) (hL2:2≤L) (hL0:L%2=0) (hLt:L<1152921504606846976) (h1:1≤ids.length) (hlen:ids.length≤65536) (hml:lenL ts≤maxT) (w:World) (h:(((pA X).sep ((blk gi (.cells CI 26)).sep (blk gk (.cells CK 74)))).sep deA).ho w) :
  Calls Tryz.prog 64 #[.pointer (some ⟨X.p,0,none⟩),.agg #[.slice (some ⟨gi,0,none⟩) ids.length ci,.slice (some ⟨gk,0,none⟩) ids.length ck],.int .i64 L] w (SeqPost X gi gk ci ck ids.length (pairsF (fits L) ts) ((pA X).sep ((blk gi (.cells CI 26)).sep (blk gk (.cells CK 74)))).fp w):=by
 rw [sep_ho] at h
 obtain ⟨k1,k2,hd⟩:=h
 have H:=St.one k1
 have HK:Ks w ((pA X).sep ((blk gi (.cells CI 26)).sep (blk gk (.cells CK 74)))).fp [deA]:=⟨by simpa using k2,by simpa using fun b hb hm=>hd b hm hb⟩
 generalize ((pA X).sep ((blk gi (.cells CI 26)).sep (blk gk (.cells CK 74)))).fp=M at *
 replace H:=H.sep
 replace H:=(H.pick (.there .here)).sep
 have hci:=hq.i.len
 have hck:=hq.k.len
 have hkl:(ts.map Tr.key).length=ids.length:=by rw [List.length_map,← hq.den.len]
 rw [hkl] at hck
 obtain ⟨ix,hix⟩:∃ ix,pairIx (fun x y=>fitsN x y L) 0 (ts.map Tr.key)=ix:=⟨_,rfl⟩
 have HRU:Hid (∀ w,(blk gk (.cells CK 74)).ho w→Calls Tryz.prog 99 #[.slice (some ⟨gk,0,none⟩) ids.length ck,.int .i64 L] w fun e w'=>∃ ad cp,e=.returned (.slice ad ix.length cp)∧St w [] [rowsA encI 3 1 (.slice ad ix.length cp) ix] w'):=Lib.hid fun w h=>by
  have:=pairs_c hL2 hL0 hLt (arr_row (g:=gk) (cap:=ck) (enc:=encU) (by rw [hkl];unfold maxLen;omega)) (pk_lt ts) (by rw [hkl];exact hlen) (by rw [hkl];exact h1) w (arr_pool (enc:=encU) (fun _=>rfl) h hq.k)
  rw [hkl,hix] at this
  exact this
 have HSTART:Hid (PairsIn X X L ts ids ix 0 0 0 CI CK ci ck [] []):=Lib.hid (by rw [← hix];exact PairsIn.start hX hq)
 have HXL:Hid (ix.length≤ids.length):=Lib.hid (by rw [← hix,← hkl];exact pairIx_len _ _ _)
 have HQ:=Lib.hid hq
 have HPX:=Lib.hid hX
 have HML:=Lib.hid hml
 obtain ⟨n,hn⟩:∃ n,ids.length=n:=⟨_,rfl⟩
 have HN:=Lib.hid hn
 obtain ⟨nx,hnx⟩:∃ nx,ix.length=nx:=⟨_,rfl⟩
 have HNX:=Lib.hid hnx
 rw [hn] at hlen h1 hci hck HRU HXL ⊢
 rw [hnx] at HRU HXL
 have hxl:=HXL.out
 clear k1 k2 hd hq hX hml hn hix hkl hL2 hL0 hLt hnx
 go_enter Tryz.func64,Tryz.ntmps64
 go_wp2_with (first|refine sL ?_|(refine sS ?_;clear H;intros;rename_i H))
 refine wp_region_h H 8 [(7,122,#[.slice none 0 0,.slice none 0 0],none)] [(7,8)] (by kernel_rfl) (by kernel_rfl) ?_
 apply Exists.intro
 refine ⟨fun w1 hw1 HX=>?_,fun bs wr Hr=>?_⟩
 ·refine sG ?_
  repeat (first|refine sQ ?_|fail|go_big_quiet_step (fail))
  apply wpQuiet_nil
  first|refine ⟨fstep_allocT rfl rfl hw1 rfl rfl,?_⟩|refine ⟨fstep_slice1 rfl rfl rfl rfl rfl rfl rfl rfl rfl hw1,?_⟩
  simp only [Act.put,puA,puB,puC]
  repeat (first|refine sQ ?_|fail|go_big_quiet_step (fail))
  exact wpQuiet_nil rfl
 clear H
 have H:=Hr
 clear Hr
 replace H:=sH H;refine sT ?_
 go_wp2_with (first|refine sL ?_|(refine sS ?_;clear H;intros;rename_i H)|(go_at_call 99;with_reducible refine Calls.mono (HRU.out _ (H.get pk)) ?_;rintro e wc ⟨ad,cp,rfl,hb⟩;replace H:=H.call0 hb;clear hb;simp only [List.cons_append,List.nil_append] at H))
 rename_i b3 _ b4 _ _ _ _
 obtain ⟨b8,hb8⟩:∃ b8,bs 7=b8:=⟨_,rfl⟩
 simp only [hb8] at H ⊢
 clear hb8
 go_loopw [9,27] (fun v9 v27 wr=>PairsRel X L ts ids ix gi gk ci ck b3 b4 b8 n nx cp ad M w v9 v27 wr) (fun _ v27 _=>nx-(intOf v27).toNat)
 case atStart=>exact ⟨X,0,0,0,CI,CK,[],[],rfl,rfl,HSTART.out,H.picks (.cons pk (.cons pk (.cons pk (.cons pk (.cons pk (.cons pk (.cons pk .nil)))))))⟩
 case round =>
  clear H
  obtain ⟨X1,j,at_,kn,C1,K1,nids,new,rfl,rfl,hin,H⟩:=hrel
  have hjl:=hin.hj
  rw [HNX.out] at hjl
  have hat:=hin.hat
  rw [HN.out] at hat
  have hkn:=hin.hkn
  have HIN:=Lib.hid hin
  have HSI:=Lib.hid hin.i.size
  have HSK:=Lib.hid hin.kk.size
  have HTL:Hid ((ts.map Tr.key).length=n):=Lib.hid (by rw [List.length_map,← HQ.out.den.len,HN.out])
  obtain ⟨oi,hoi⟩:∃ o,o=if ci=at_ then 0 else at_:=⟨_,rfl⟩
  obtain ⟨ok,hok⟩:∃ o,o=if ck=at_ then 0 else at_:=⟨_,rfl⟩
  obtain ⟨cri,hcri⟩:∃ o,ci-at_=o:=⟨_,rfl⟩
  obtain ⟨crk,hcrk⟩:∃ o,ck-at_=o:=⟨_,rfl⟩
  have HOI:=Lib.hid hoi
  have HOK:=Lib.hid hok
  have HCRI:=Lib.hid hcri
  have HCRK:=Lib.hid hcrk
  clear hin hoi hok hcri hcrk
  by_cases hlt:j<nx
  ·obtain ⟨i,hij⟩:∃ i,ix[j]?=some i:=⟨_,List.getElem?_eq_getElem (by rw [HNX.out];exact hlt)⟩
   obtain ⟨m,a,b,x,y,hnx⟩:=HIN.out.next HQ.out.den hij
   have HNXT:=Lib.hid hnx
   have HIX:=Lib.hid hij
   have hin2:=hnx.hin
   have him:=hnx.him
   rw [HN.out] at hin2
   obtain ⟨gx,cgx,e9,_,_⟩:=rowsA_cases (H.get (A:=rowsA encI 3 1 (.slice ad nx cp) ix) pk) (by rw [HNX.out];omega)
   injection e9 with e9 e7 e8
   clear e7
   subst e9
   subst e8
   have HIM:=Lib.hid him
   have H2CI:Hid2 (i≤ci) (i≤ck):=⟨by omega,by omega⟩
   have HRM:Hid2 (kn+m≤ci) (kn+m≤ck):=⟨by omega,by omega⟩
   have hml1:((ids.drop at_).take m).length=m:=by rw [List.length_take,List.length_drop,HN.out];omega
   have hml2:(((ts.map Tr.key).drop at_).take m).length=m:=by rw [List.length_take,List.length_drop,HTL.out];omega
   have HLI:Hid ((((ids.drop at_).take m).map fI).length=m):=Lib.hid (by rw [List.length_map,hml1])
   have HLK:Hid (((((ts.map Tr.key).drop at_).take m).map fU).length=m):=Lib.hid (by rw [List.length_map,hml2])
   have HLTI:Hid (m≠0→at_<ci):=Lib.hid fun h=>by omega
   have HLTK:Hid (m≠0→at_<ck):=Lib.hid fun h=>by omega
   have HMI:Hid (at_+m≤ids.length):=Lib.hid (by rw [HN.out];omega)
   have HMK2:Hid (at_+m≤(ts.map Tr.key).length):=Lib.hid (by rw [HTL.out];omega)
   have hiL:i+2≤n:=hin2
   have hka:kn+m+2≤n:=by omega
   clear hij hnx him hml1 hml2 hin2
   go_wp2_with (first|refine sL ?_|(refine sS ?_;clear H;intros;rename_i H)|((with_reducible refine isLoad ?_);refine AtLoad.cel rfl rfl rfl rfl (rowsA_cell1 (H.get (A:=rowsA encI 3 1 (.slice (some ⟨gx,0,none⟩) nx cp) ix) pk) encI_len HIX.out rfl) ?_;simp only [Act.put,puA,puB,puC]))
   replace H:St w M [blk gi (.cells (C1) 26),pA X1,blk gk (.cells (K1) 74),blk b3 (.cells #[.slice (some ⟨gi,0,none⟩) n ci,.slice (some ⟨gk,0,none⟩) n ck] 122),blk b4 (.cells #[.slice none 0 0,.slice none 0 0] 122),blk b8 (.cells #[.slice (some ⟨gi,0,none⟩) kn ci,.slice (some ⟨gk,0,none⟩) kn ck] 122),rowsA encI 3 1 (.slice (some ⟨gx,0,none⟩) nx cp) ix] _:=H.picks (.cons pk (.cons pk (.cons pk (.cons pk (.cons pk (.cons pk (.cons pk .nil)))))))
   refine wp_region_sgx 8 [⟨[],fun v _=>v=.pointer (some ⟨b8,0,none⟩)⟩,⟨[0],fun v _=>v=.slice (some ⟨gi,0,none⟩) kn ci⟩,⟨[],fun v _=>v=.pointer (some ⟨b3,0,none⟩)⟩,⟨[2],fun v _=>v=.slice (some ⟨gi,0,none⟩) n ci⟩,⟨[],fun v _=>v=.int .i64 at_⟩,⟨[],fun v _=>v=.int .i64 i⟩,⟨[3,4,5],fun v _=>v=.slice (some ⟨gi,oi,none⟩) m cri⟩,⟨[1,6],fun v _=>v=.slice (some ⟨gi,0,none⟩) (kn+m) ci⟩] [7] [[0],[0],[0],[0],[0],[0],[0],[0]] [fun _ wx=>St w M [blk gi (.cells (C1) 26),pA X1,blk gk (.cells (K1) 74),blk b3 (.cells #[.slice (some ⟨gi,0,none⟩) n ci,.slice (some ⟨gk,0,none⟩) n ck] 122),blk b4 (.cells #[.slice none 0 0,.slice none 0 0] 122),blk b8 (.cells #[.slice (some ⟨gi,0,none⟩) kn ci,.slice (some ⟨gk,0,none⟩) kn ck] 122),rowsA encI 3 1 (.slice (some ⟨gx,0,none⟩) nx cp) ix] wx,fun vals wx=>St w M [blk gi (.cells (putC C1 kn (((ids.drop at_).take m).map fI)) 26),pA X1,blk gk (.cells (K1) 74),blk b3 (.cells #[.slice (some ⟨gi,0,none⟩) n ci,.slice (some ⟨gk,0,none⟩) n ck] 122),blk b4 (.cells #[.slice none 0 0,.slice none 0 0] 122),blk b8 (.cells #[.slice (some ⟨gi,0,none⟩) kn ci,.slice (some ⟨gk,0,none⟩) kn ck] 122),rowsA encI 3 1 (.slice (some ⟨gx,0,none⟩) nx cp) ix] wx]
    [[],[(0,31)],[],[(2,33)],[],[],[(3,34),(4,35),(5,36)],[(1,32),(6,37)]] [(0,31),(1,32),(2,33),(3,34),(4,35),(5,36),(6,37),(7,38)] (by kernel_rfl) (by kernel_rfl) H.drew ⟨⟨qo,trivial⟩,⟨ql,trivial⟩,⟨qo,trivial⟩,⟨ql,trivial⟩,⟨qo,trivial⟩,⟨qo,trivial⟩,⟨?_,trivial⟩,⟨?_,trivial⟩,trivial⟩ ?_
   ·intro vals wx hd HC
    simp only [GF] at hd
    have H:=HC
    simp only [CA] at H
    simp only [PS,hd]
    refine StStep.seg rfl rfl rfl rfl rfl rfl rfl H2CI.out1 (m:=m) (cr:=cri) HIM.out HCRI.out HOI.out ⟨rfl,HC⟩
   ·intro vals wx hd HC
    simp only [GF] at hd
    have H:=HC
    simp only [CA] at H
    simp only [PS,hd]
    clear HC
    refine StStep.room rfl rfl rfl rfl rfl rfl H (((ids.drop at_).take m).map fI) HLI.out (seg_new (H.at pk) HIN.out.i (Nat.le_refl _) HOI.out HLTI.out HMI.out) (by intro u hu;obtain ⟨x,_,rfl⟩:=List.mem_map.1 hu;rfl) HRM.out1 HSI.out ?_
    intro wz H
    exact ⟨rfl,H⟩
   intro vals wx hd HC
   simp only [CA] at HC
   have H:=HC;clear HC
   simp only [GF] at hd
   simp only [PS,hd]
   clear hd
   go_wp2_with (first|refine sL ?_|(refine sS ?_;clear H;intros;rename_i H))
   obtain ⟨Ca,hca⟩:∃ c,putC C1 kn (((ids.drop at_).take m).map fI)=c:=⟨_,rfl⟩
   rw [hca] at H
   have HCAE:=Lib.hid hca
   clear hca
   replace H:St w M [blk gk (.cells (K1) 74),pA X1,blk gi (.cells (Ca) 26),blk b3 (.cells #[.slice (some ⟨gi,0,none⟩) n ci,.slice (some ⟨gk,0,none⟩) n ck] 122),blk b4 (.cells #[.slice none 0 0,.slice none 0 0] 122),blk b8 (.cells #[.slice (some ⟨gi,0,none⟩) (kn+m) ci,.slice (some ⟨gk,0,none⟩) kn ck] 122),rowsA encI 3 1 (.slice (some ⟨gx,0,none⟩) nx cp) ix] _:=H.picks (.cons pk (.cons pk (.cons pk (.cons pk (.cons pk (.cons pk (.cons pk .nil)))))))
   refine wp_region_sgx 8 [⟨[],fun v _=>v=.pointer (some ⟨b8,1,none⟩)⟩,⟨[0],fun v _=>v=.slice (some ⟨gk,0,none⟩) kn ck⟩,⟨[],fun v _=>v=.pointer (some ⟨b3,1,none⟩)⟩,⟨[2],fun v _=>v=.slice (some ⟨gk,0,none⟩) n ck⟩,⟨[],fun v _=>v=.int .i64 at_⟩,⟨[],fun v _=>v=.int .i64 i⟩,⟨[3,4,5],fun v _=>v=.slice (some ⟨gk,ok,none⟩) m crk⟩,⟨[1,6],fun v _=>v=.slice (some ⟨gk,0,none⟩) (kn+m) ck⟩] [7] [[0],[0],[0],[0],[0],[0],[0],[0]] [fun _ wx=>St w M [blk gk (.cells (K1) 74),pA X1,blk gi (.cells (Ca) 26),blk b3 (.cells #[.slice (some ⟨gi,0,none⟩) n ci,.slice (some ⟨gk,0,none⟩) n ck] 122),blk b4 (.cells #[.slice none 0 0,.slice none 0 0] 122),blk b8 (.cells #[.slice (some ⟨gi,0,none⟩) (kn+m) ci,.slice (some ⟨gk,0,none⟩) kn ck] 122),rowsA encI 3 1 (.slice (some ⟨gx,0,none⟩) nx cp) ix] wx,fun vals wx=>St w M [blk gk (.cells (putC K1 kn ((((ts.map Tr.key).drop at_).take m).map fU)) 74),pA X1,blk gi (.cells (Ca) 26),blk b3 (.cells #[.slice (some ⟨gi,0,none⟩) n ci,.slice (some ⟨gk,0,none⟩) n ck] 122),blk b4 (.cells #[.slice none 0 0,.slice none 0 0] 122),blk b8 (.cells #[.slice (some ⟨gi,0,none⟩) (kn+m) ci,.slice (some ⟨gk,0,none⟩) kn ck] 122),rowsA encI 3 1 (.slice (some ⟨gx,0,none⟩) nx cp) ix] wx]
    [[],[(0,40)],[],[(2,42)],[],[],[(3,43),(4,44),(5,45)],[(1,41),(6,46)]] [(0,40),(1,41),(2,42),(3,43),(4,44),(5,45),(6,46),(7,47)] (by kernel_rfl) (by kernel_rfl) H.drew ⟨⟨qo,trivial⟩,⟨ql,trivial⟩,⟨qo,trivial⟩,⟨ql,trivial⟩,⟨qo,trivial⟩,⟨qo,trivial⟩,⟨?_,trivial⟩,⟨?_,trivial⟩,trivial⟩ ?_
   ·intro vals wx hd HC
    simp only [GF] at hd
    have H:=HC
    simp only [CA] at H
    simp only [PS,hd]
    refine StStep.seg rfl rfl rfl rfl rfl rfl rfl H2CI.out2 (m:=m) (cr:=crk) HIM.out HCRK.out HOK.out ⟨rfl,HC⟩
   ·intro vals wx hd HC
    simp only [GF] at hd
    have H:=HC
    simp only [CA] at H
    simp only [PS,hd]
    clear HC
    refine StStep.room rfl rfl rfl rfl rfl rfl H ((((ts.map Tr.key).drop at_).take m).map fU) HLK.out (seg_new (H.at pk) HIN.out.kk (Nat.le_refl _) HOK.out HLTK.out HMK2.out) (by intro u hu;obtain ⟨x,_,rfl⟩:=List.mem_map.1 hu;rfl) HRM.out2 HSK.out ?_
    intro wz H
    exact ⟨rfl,H⟩
   intro vals wx hd HC
   simp only [CA] at HC
   have H:=HC;clear HC
   simp only [GF] at hd
   simp only [PS,hd]
   clear hd
   go_wp2_with (first|refine sL ?_|(refine sS ?_;clear H;intros;rename_i H))
   obtain ⟨Ka,hka9⟩:∃ c,putC K1 kn ((((ts.map Tr.key).drop at_).take m).map fU)=c:=⟨_,rfl⟩
   rw [hka9] at H
   have HKAE:=Lib.hid hka9
   clear hka9
   have hmid:=HIN.out.mid HQ.out.den HNXT.out (by rw [HN.out];exact hci) (by rw [HN.out];exact hck)
   rw [HCAE.out,HKAE.out] at hmid
   have HA2:=Lib.hid hmid.1
   have HSI2:=Lib.hid hmid.1.size
   have HSK2:=Lib.hid hmid.2.size
   have HCA:Hid (∀ w,(blk gi (.cells (Ca) 26)).ho w→w.cell? ⟨gi,i,none⟩=some (.int .i64 a)):=Lib.hid fun w h=>arr_cell h (HA2.out.od i a (Nat.le_refl _) HNXT.out.ia)
   have HCB:Hid (∀ w,(blk gi (.cells (Ca) 26)).ho w→w.cell? ⟨gi,i+1,none⟩=some (.int .i64 b)):=Lib.hid fun w h=>arr_cell h (HA2.out.od (i+1) b (Nat.le_succ _) HNXT.out.ib)
   clear hmid
   have HC0:Hid (∀ w,(pA X1).ho w→w.cell? ⟨X.p,0,none⟩=some (.pointer (some ⟨X1.s,0,none⟩))):=Lib.hid fun w h=>by have:=pA_c0 h;rwa [HIN.out.ext.p] at this
   have HPW:Hid (∀ w,(pA X1).ho w→Calls Tryz.prog 43 #[.pointer (some ⟨X1.s,0,none⟩),.int .i64 a,.int .i64 b] w (MPost X1 (.pair x y) (pA X1).fp w)):=Lib.hid fun w h=>pair_p (HNXT.out.da.le HPX.out.ok HIN.out.ext.le) (HNXT.out.db.le HPX.out.ok HIN.out.ext.le) (Nat.le_trans HNXT.out.len HML.out) HIN.out.ok w h
   replace H:St w M [pA X1,blk gi (.cells (Ca) 26),blk gk (.cells (Ka) 74),blk b3 (.cells #[.slice (some ⟨gi,0,none⟩) n ci,.slice (some ⟨gk,0,none⟩) n ck] 122),blk b4 (.cells #[.slice none 0 0,.slice none 0 0] 122),blk b8 (.cells #[.slice (some ⟨gi,0,none⟩) (kn+m) ci,.slice (some ⟨gk,0,none⟩) (kn+m) ck] 122),rowsA encI 3 1 (.slice (some ⟨gx,0,none⟩) nx cp) ix] _:=H.picks (.cons pk (.cons pk (.cons pk (.cons pk (.cons pk (.cons pk (.cons pk .nil)))))))
   refine wp_region_sgx 21 [⟨[],fun v _=>v=.pointer (some ⟨X.p,0,none⟩)⟩,⟨[0],fun v _=>v=.pointer (some ⟨X.p,0,none⟩)⟩,⟨[1],fun v _=>v=.pointer (some ⟨X.p,0,none⟩)⟩,⟨[2],fun v _=>v=.pointer (some ⟨X1.s,0,none⟩)⟩,⟨[],fun v _=>v=.pointer (some ⟨b3,0,none⟩)⟩,⟨[4],fun v _=>v=.slice (some ⟨gi,0,none⟩) n ci⟩,⟨[],fun v _=>v=.int .i64 i⟩,⟨[5,6],fun v _=>v=.pointer (some ⟨gi,i,none⟩)⟩,⟨[7],fun v _=>v=.int .i64 a⟩,⟨[],fun v _=>v=.pointer (some ⟨b3,0,none⟩)⟩,⟨[9],fun v _=>v=.slice (some ⟨gi,0,none⟩) n ci⟩,⟨[],fun v _=>v=.int .i64 i⟩,⟨[11],fun v _=>v=.int .i64 ((i:Int)+1)⟩,⟨[10,12],fun v _=>v=.pointer (some ⟨gi,i+1,none⟩)⟩,⟨[13],fun v _=>v=.int .i64 b⟩,⟨[3,8,14],fun v _=>∃ (id:Nat) (c:Option Nat),v=.tuple #[.int .i64 id,errV c]⟩,⟨[15],fun v ds=>ds=[v]⟩,⟨[16],fun v ds=>∃ (id:Nat) (c:Option Nat),ds=[.tuple #[.int .i64 id,errV c]]∧v=.int .i64 id⟩,⟨[16],fun v ds=>∃ (id:Nat) (c:Option Nat),ds=[.tuple #[.int .i64 id,errV c]]∧v=errV c⟩,⟨[17],fun v ds=>ds=[v]⟩,⟨[18],fun v ds=>ds=[v]⟩] [15] [[0],[0],[0],[0],[0],[0],[0],[0],[0],[0],[0],[0],[0],[0],[0],[0],[1],[1],[1],[1],[1]] [fun _ wx=>St w M [pA X1,blk gi (.cells (Ca) 26),blk gk (.cells (Ka) 74),blk b3 (.cells #[.slice (some ⟨gi,0,none⟩) n ci,.slice (some ⟨gk,0,none⟩) n ck] 122),blk b4 (.cells #[.slice none 0 0,.slice none 0 0] 122),blk b8 (.cells #[.slice (some ⟨gi,0,none⟩) (kn+m) ci,.slice (some ⟨gk,0,none⟩) (kn+m) ck] 122),rowsA encI 3 1 (.slice (some ⟨gx,0,none⟩) nx cp) ix] wx,fun vals wx=>∃ (X2:Px) (id:Nat) (c:Option Nat),vals 15=.tuple #[.int .i64 id,errV c]∧MkFact X1 X2 (.pair x y) id c∧St w M [pA X2,blk gi (.cells (Ca) 26),blk gk (.cells (Ka) 74),blk b3 (.cells #[.slice (some ⟨gi,0,none⟩) n ci,.slice (some ⟨gk,0,none⟩) n ck] 122),blk b4 (.cells #[.slice none 0 0,.slice none 0 0] 122),blk b8 (.cells #[.slice (some ⟨gi,0,none⟩) (kn+m) ci,.slice (some ⟨gk,0,none⟩) (kn+m) ck] 122),rowsA encI 3 1 (.slice (some ⟨gx,0,none⟩) nx cp) ix] wx]
    [[],[(0,50)],[(1,51)],[(2,52)],[],[(4,54)],[],[(5,55),(6,56)],[(7,57)],[],[(9,59)],[],[(11,61)],[(10,60),(12,62)],[(13,63)],[(3,53),(8,58),(14,64)],[(15,65)],[(16,49)],[(16,49)],[(17,66)],[(18,67)]] [(0,50),(1,51),(2,52),(3,53),(4,54),(5,55),(6,56),(7,57),(8,58),(9,59),(10,60),(11,61),(12,62),(13,63),(14,64),(15,65),(16,49),(17,66),(18,67),(19,12),(20,13)] (by kernel_rfl) (by kernel_rfl) H.drew ⟨⟨qo,trivial⟩,⟨qo,trivial⟩,⟨qo,trivial⟩,⟨ql,trivial⟩,⟨qo,trivial⟩,⟨ql,trivial⟩,⟨qo,trivial⟩,⟨?_,trivial⟩,⟨ql,trivial⟩,⟨qo,trivial⟩,⟨ql,trivial⟩,⟨qo,trivial⟩,⟨qo,trivial⟩,⟨?_,trivial⟩,⟨ql,trivial⟩,⟨?_,trivial⟩,⟨?_,trivial⟩,⟨?_,trivial⟩,⟨?_,trivial⟩,⟨?_,trivial⟩,⟨?_,trivial⟩,trivial⟩ ?_
   ·intro vals wx hd HC
    simp only [GF] at hd
    have H:=HC
    simp only [CA] at H
    simp only [PS,hd]
    go_simp
    rw [if_pos (show i<n by omega)]
    exact ⟨rfl,HC⟩
   ·intro vals wx hd HC
    simp only [GF] at hd
    have H:=HC
    simp only [CA] at H
    simp only [PS,hd]
    go_simp
    rw [if_pos (show (0:Int)≤(i:Int)+1∧(i:Int)+1<(n:Int) by omega)]
    exact ⟨rfl,HC⟩
   ·intro vals wx hd HC
    simp only [GF] at hd
    obtain ⟨h3,h8,h14⟩:=hd
    have H:=HC
    simp only [CA] at H
    simp only [PS,h3,h8,h14]
    clear h3 h8 h14 HC
    go_simp
    with_reducible refine Calls.mono (HPW.out _ (H.get (A:=pA X1) pk)) ?_
    rintro e wc ⟨X2,id,c,rfl,m1,m2,m3,m4,hb⟩
    have H2:=(H.pick (A:=pA X1) pk).call hb
    exact ⟨_,rfl,⟨id,c,rfl⟩,X2,id,c,rfl,⟨m1,m2,m3,m4⟩,by simpa using H2⟩
   ·intro vals wx hd HC
    simp only [GF] at hd
    have h15:=hd
    clear hd
    have H:=HC
    simp only [CA] at H
    obtain ⟨X2,id,c,hv7,hmk,H⟩:=H
    simp only [PS]
    clear h15
    go_simp
    first|exact HC|exact ⟨rfl,HC⟩
   ·intro vals wx hd HC
    simp only [GF] at hd
    have h16:=hd
    clear hd
    have H:=HC
    simp only [CA] at H
    obtain ⟨X2,id,c,hv7,hmk,H⟩:=H
    simp only [PS]
    have e8:vals 16=.tuple #[.int .i64 id,errV c]:=by rw [← hv7];exact X8 (show [vals 15]=[vals 16] from h16)
    simp only [e8]
    clear h16
    go_simp
    first|exact HC|exact ⟨⟨id,c,by simp [e8],rfl⟩,HC⟩|exact ⟨⟨id,rfl,c,rfl⟩,HC⟩|exact ⟨⟨c,⟨id,rfl⟩,rfl⟩,HC⟩|exact ⟨⟨id,c,rfl⟩,HC⟩|exact ⟨⟨id,⟨rfl,c,rfl⟩,rfl⟩,HC⟩|exact ⟨⟨⟨id,rfl⟩,c,rfl⟩,HC⟩|fail "Z9"
   ·intro vals wx hd HC
    simp only [GF] at hd
    have h16:=hd
    clear hd
    have H:=HC
    simp only [CA] at H
    obtain ⟨X2,id,c,hv7,hmk,H⟩:=H
    simp only [PS]
    have e8:vals 16=.tuple #[.int .i64 id,errV c]:=by rw [← hv7];exact X8 (show [vals 15]=[vals 16] from h16)
    simp only [e8]
    clear h16
    go_simp
    first|exact HC|exact ⟨⟨id,c,by simp [e8],rfl⟩,HC⟩|exact ⟨⟨id,rfl,c,rfl⟩,HC⟩|exact ⟨⟨c,⟨id,rfl⟩,rfl⟩,HC⟩|exact ⟨⟨id,c,rfl⟩,HC⟩|exact ⟨⟨id,⟨rfl,c,rfl⟩,rfl⟩,HC⟩|exact ⟨⟨⟨id,rfl⟩,c,rfl⟩,HC⟩|fail "Z9"
   ·intro vals wx hd HC
    simp only [GF] at hd
    have h17:=hd
    clear hd
    have H:=HC
    simp only [CA] at H
    obtain ⟨X2,id,c,hv7,hmk,H⟩:=H
    simp only [PS]
    clear h17
    go_simp
    first|exact HC|exact ⟨rfl,HC⟩
   ·intro vals wx hd HC
    simp only [GF] at hd
    have h18:=hd
    clear hd
    have H:=HC
    simp only [CA] at H
    obtain ⟨X2,id,c,hv7,hmk,H⟩:=H
    simp only [PS]
    clear h18
    go_simp
    first|exact HC|exact ⟨rfl,HC⟩
   intro vals wx hd HC
   have h15:=hd.2.2.2.2.2.2.2.2.2.2.2.2.2.2.2.1
   have h16:=hd.2.2.2.2.2.2.2.2.2.2.2.2.2.2.2.2.1
   have h17:=hd.2.2.2.2.2.2.2.2.2.2.2.2.2.2.2.2.2.1
   have h18:=hd.2.2.2.2.2.2.2.2.2.2.2.2.2.2.2.2.2.2.1
   have h19:=hd.2.2.2.2.2.2.2.2.2.2.2.2.2.2.2.2.2.2.2.1
   have h20:=hd.2.2.2.2.2.2.2.2.2.2.2.2.2.2.2.2.2.2.2.2.1
   simp only [CA] at HC
   obtain ⟨X2,id,c,hv7,hmk,H⟩:=HC
   simp only [GF] at hd
   simp only [PS,hd]
   clear hd
   have e8:vals 16=.tuple #[.int .i64 id,errV c]:=by rw [← hv7];exact X8 (show [vals 15]=[vals 16] from h16)
   have h9':∃ (i':Nat) (c':Option Nat),[vals 16]=[.tuple #[.int .i64 i',errV c']]∧vals 17=.int .i64 i':=h17
   have h10':∃ (i':Nat) (c':Option Nat),[vals 16]=[.tuple #[.int .i64 i',errV c']]∧vals 18=errV c':=h18
   have e9:vals 17=.int .i64 id:=by
    obtain ⟨i',c',e,e'⟩:=h9'
    rw [e8] at e
    simp at e
    rw [e'];simp [e.1]
   have e10:vals 18=errV c:=by
    obtain ⟨i',c',e,e'⟩:=h10'
    rw [e8] at e
    simp at e
    rw [e',e.2]
   have e11:vals 19=.int .i64 id:=by rw [← e9];exact X8 (show [vals 17]=[vals 19] from h19)
   have e12:vals 20=errV c:=by rw [← e10];exact X8 (show [vals 18]=[vals 20] from h20)
   simp only [hv7,e8,e9,e10,e11,e12]
   clear e8 e9 e10 e11 e12 h15 h16 h17 h18 h19 h20 hv7 h9' h10'
   have HMK:=Lib.hid hmk
   obtain ⟨ky,hky⟩:∃ ky,(Tr.pair x y).key=ky:=⟨_,rfl⟩
   have HKY:=Lib.hid hky
   rcases hmk.ans with ⟨rfl,hid⟩|⟨rfl,rfl,hs,hmost⟩
   ·have HID:=Lib.hid hid
    have HAD:Hid (∀ w,((sqA X2 b8 gi gk ci ck (kn+m) Ca Ka).sep deA).ho w→Calls Tryz.prog 96 #[.pointer (some ⟨X.p,0,none⟩),.pointer (some ⟨b8,0,none⟩),.int .i64 id] w (AddPost X2 b8 gi gk ci ck (kn+m) Ca Ka id ky (sqA X2 b8 gi gk ci ck (kn+m) Ca Ka).fp w)):=Lib.hid fun w h=>by
     have:=add_p (k:=kn+m) HMK.out.ok HID.out HKY.out (by omega) (by omega) (by omega) HSI2.out HSK2.out w h
     rwa [HMK.out.ext.p,HIN.out.ext.p] at this
    clear hmk hky hid
    simp only [errV] at *
    replace H:=sqA_shut (H.picks (L':=[pA X2,blk b8 (.cells #[.slice (some ⟨gi,0,none⟩) (kn+m) ci,.slice (some ⟨gk,0,none⟩) (kn+m) ck] 122),blk gi (.cells (Ca) 26),blk gk (.cells (Ka) 74),blk b3 (.cells #[.slice (some ⟨gi,0,none⟩) n ci,.slice (some ⟨gk,0,none⟩) n ck] 122),blk b4 (.cells #[.slice none 0 0,.slice none 0 0] 122),rowsA encI 3 1 (.slice (some ⟨gx,0,none⟩) nx cp) ix]) (.cons pk (.cons pk (.cons pk (.cons pk (.cons pk (.cons pk (.cons pk .nil))))))))
    go_wp2_with (first|refine sL ?_|(refine sS ?_;clear H;intros;rename_i H)|(go_at_call 96;with_reducible refine Calls.mono (HAD.out _ (H.sepK HK pk pk)) ?_;rintro e wc ⟨X3,y1,y2,y3,rfl,hb⟩;have HY:=Lib.hid (And.intro y1 (And.intro y2 y3));clear y1 y2 y3;replace H:=(H.pick (A:=sqA X2 b8 gi gk ci ck (kn+m) Ca Ka) pk).call hb;clear hb;simp only [List.cons_append,List.nil_append] at H;replace H:=sqA_open H))
    rw [← HCAE.out,← HKAE.out] at H
    refine ⟨⟨X3,j+1,i+2,kn+m+1,_,_,_,_,by go_num,by go_num,HIN.out.step HQ.out.den HPX.out.ok HNXT.out HIX.out (HMK.out.ext.trans HY.out.1) HY.out.2.1 (by rw [HY.out.2.2];exact HID.out) HKY.out (by rw [HY.out.2.2];exact HMK.out.len) (by rw [HN.out];exact hci) (by rw [HN.out];exact hck),H.picks (.cons pk (.cons pk (.cons pk (.cons pk (.cons pk (.cons pk (.cons pk .nil)))))))⟩,by simp [intOf];omega⟩
   ·have HS:=Lib.hid hs
    have HMO:=Lib.hid hmost
    clear hs hmost hmk hky
    simp only [errV,EV] at *
    go_wp2_with (first|refine sL ?_|(refine sS ?_;clear H;intros;rename_i H))
    refine bodyPost_ret (res_row_tmp rfl H rfl pk rfl rfl) rfl ?_
    have hsh:=HIN.out.short HQ.out.den HNXT.out
    rw [HN.out] at hsh
    refine ⟨X2,_,_,HIN.out.ext.trans HMK.out.ext,HMK.out.ok,H.picks (.cons pk (.cons pk (.cons pk .nil))),.inr ⟨rfl,by rw [HS.out];exact HMO.out,by rw [HS.out];exact hsh⟩⟩
  ·obtain rfl:j=nx:=by omega
   obtain ⟨m,hm⟩:∃ m,n=at_+m:=⟨n-at_,by omega⟩
   have HMR:=Lib.hid hm
   have HRM:Hid2 (kn+m≤ci) (kn+m≤ck):=⟨by omega,by omega⟩
   have hml1:((ids.drop at_).take m).length=m:=by rw [List.length_take,List.length_drop,HN.out];omega
   have hml2:(((ts.map Tr.key).drop at_).take m).length=m:=by rw [List.length_take,List.length_drop,HTL.out];omega
   have HLI:Hid ((((ids.drop at_).take m).map fI).length=m):=Lib.hid (by rw [List.length_map,hml1])
   have HLK:Hid (((((ts.map Tr.key).drop at_).take m).map fU).length=m):=Lib.hid (by rw [List.length_map,hml2])
   have HLTI:Hid (m≠0→at_<ci):=Lib.hid fun h=>by omega
   have HLTK:Hid (m≠0→at_<ck):=Lib.hid fun h=>by omega
   have HMI:Hid (at_+m≤ids.length):=Lib.hid (by rw [HN.out];omega)
   have HMK2:Hid (at_+m≤(ts.map Tr.key).length):=Lib.hid (by rw [HTL.out];omega)
   have hmn:at_+m≤n:=by omega
   clear hm hml1 hml2
   go_wp2_with (first|refine sL ?_|(refine sS ?_;clear H;intros;rename_i H))
   replace H:St w M [blk gi (.cells (C1) 26),pA X1,blk gk (.cells (K1) 74),blk b3 (.cells #[.slice (some ⟨gi,0,none⟩) n ci,.slice (some ⟨gk,0,none⟩) n ck] 122),blk b4 (.cells #[.slice none 0 0,.slice none 0 0] 122),blk b8 (.cells #[.slice (some ⟨gi,0,none⟩) kn ci,.slice (some ⟨gk,0,none⟩) kn ck] 122),rowsA encI 3 1 (.slice ad j cp) ix] _:=H.picks (.cons pk (.cons pk (.cons pk (.cons pk (.cons pk (.cons pk (.cons pk .nil)))))))
   refine wp_region_sgx 7 [⟨[],fun v _=>v=.pointer (some ⟨b8,0,none⟩)⟩,⟨[0],fun v _=>v=.slice (some ⟨gi,0,none⟩) kn ci⟩,⟨[],fun v _=>v=.pointer (some ⟨b3,0,none⟩)⟩,⟨[2],fun v _=>v=.slice (some ⟨gi,0,none⟩) n ci⟩,⟨[],fun v _=>v=.int .i64 at_⟩,⟨[3,4],fun v _=>v=.slice (some ⟨gi,oi,none⟩) m cri⟩,⟨[1,5],fun v _=>v=.slice (some ⟨gi,0,none⟩) (kn+m) ci⟩] [6] [[0],[0],[0],[0],[0],[0],[0]] [fun _ wx=>St w M [blk gi (.cells (C1) 26),pA X1,blk gk (.cells (K1) 74),blk b3 (.cells #[.slice (some ⟨gi,0,none⟩) n ci,.slice (some ⟨gk,0,none⟩) n ck] 122),blk b4 (.cells #[.slice none 0 0,.slice none 0 0] 122),blk b8 (.cells #[.slice (some ⟨gi,0,none⟩) kn ci,.slice (some ⟨gk,0,none⟩) kn ck] 122),rowsA encI 3 1 (.slice ad j cp) ix] wx,fun vals wx=>St w M [blk gi (.cells (putC C1 kn (((ids.drop at_).take m).map fI)) 26),pA X1,blk gk (.cells (K1) 74),blk b3 (.cells #[.slice (some ⟨gi,0,none⟩) n ci,.slice (some ⟨gk,0,none⟩) n ck] 122),blk b4 (.cells #[.slice none 0 0,.slice none 0 0] 122),blk b8 (.cells #[.slice (some ⟨gi,0,none⟩) kn ci,.slice (some ⟨gk,0,none⟩) kn ck] 122),rowsA encI 3 1 (.slice ad j cp) ix] wx]
    [[],[(0,82)],[],[(2,84)],[],[(3,85),(4,86)],[(1,83),(5,87)]] [(0,82),(1,83),(2,84),(3,85),(4,86),(5,87),(6,88)] (by kernel_rfl) (by kernel_rfl) H.drew ⟨⟨qo,trivial⟩,⟨ql,trivial⟩,⟨qo,trivial⟩,⟨ql,trivial⟩,⟨qo,trivial⟩,⟨?_,trivial⟩,⟨?_,trivial⟩,trivial⟩ ?_
   ·intro vals wx hd HC
    simp only [GF] at hd
    have H:=HC
    simp only [CA] at H
    simp only [PS,hd]
    refine StStep.segL rfl rfl rfl rfl rfl rfl (m:=m) (cr:=cri) HMR.out HCRI.out HOI.out ⟨rfl,HC⟩
   ·intro vals wx hd HC
    simp only [GF] at hd
    have H:=HC
    simp only [CA] at H
    simp only [PS,hd]
    clear HC
    refine StStep.room rfl rfl rfl rfl rfl rfl H (((ids.drop at_).take m).map fI) HLI.out (seg_new (H.at pk) HIN.out.i (Nat.le_refl _) HOI.out HLTI.out HMI.out) (by intro u hu;obtain ⟨x,_,rfl⟩:=List.mem_map.1 hu;rfl) HRM.out1 HSI.out ?_
    intro wz H
    exact ⟨rfl,H⟩
   intro vals wx hd HC
   simp only [CA] at HC
   have H:=HC;clear HC
   simp only [GF] at hd
   simp only [PS,hd]
   clear hd
   go_wp2_with (first|refine sL ?_|(refine sS ?_;clear H;intros;rename_i H))
   obtain ⟨Ca,hca⟩:∃ c,putC C1 kn (((ids.drop at_).take m).map fI)=c:=⟨_,rfl⟩
   rw [hca] at H
   have HCAE:=Lib.hid hca
   clear hca
   replace H:St w M [blk gk (.cells (K1) 74),pA X1,blk gi (.cells (Ca) 26),blk b3 (.cells #[.slice (some ⟨gi,0,none⟩) n ci,.slice (some ⟨gk,0,none⟩) n ck] 122),blk b4 (.cells #[.slice none 0 0,.slice none 0 0] 122),blk b8 (.cells #[.slice (some ⟨gi,0,none⟩) (kn+m) ci,.slice (some ⟨gk,0,none⟩) kn ck] 122),rowsA encI 3 1 (.slice ad j cp) ix] _:=H.picks (.cons pk (.cons pk (.cons pk (.cons pk (.cons pk (.cons pk (.cons pk .nil)))))))
   refine wp_region_sgx 7 [⟨[],fun v _=>v=.pointer (some ⟨b8,1,none⟩)⟩,⟨[0],fun v _=>v=.slice (some ⟨gk,0,none⟩) kn ck⟩,⟨[],fun v _=>v=.pointer (some ⟨b3,1,none⟩)⟩,⟨[2],fun v _=>v=.slice (some ⟨gk,0,none⟩) n ck⟩,⟨[],fun v _=>v=.int .i64 at_⟩,⟨[3,4],fun v _=>v=.slice (some ⟨gk,ok,none⟩) m crk⟩,⟨[1,5],fun v _=>v=.slice (some ⟨gk,0,none⟩) (kn+m) ck⟩] [6] [[0],[0],[0],[0],[0],[0],[0]] [fun _ wx=>St w M [blk gk (.cells (K1) 74),pA X1,blk gi (.cells (Ca) 26),blk b3 (.cells #[.slice (some ⟨gi,0,none⟩) n ci,.slice (some ⟨gk,0,none⟩) n ck] 122),blk b4 (.cells #[.slice none 0 0,.slice none 0 0] 122),blk b8 (.cells #[.slice (some ⟨gi,0,none⟩) (kn+m) ci,.slice (some ⟨gk,0,none⟩) kn ck] 122),rowsA encI 3 1 (.slice ad j cp) ix] wx,fun vals wx=>St w M [blk gk (.cells (putC K1 kn ((((ts.map Tr.key).drop at_).take m).map fU)) 74),pA X1,blk gi (.cells (Ca) 26),blk b3 (.cells #[.slice (some ⟨gi,0,none⟩) n ci,.slice (some ⟨gk,0,none⟩) n ck] 122),blk b4 (.cells #[.slice none 0 0,.slice none 0 0] 122),blk b8 (.cells #[.slice (some ⟨gi,0,none⟩) (kn+m) ci,.slice (some ⟨gk,0,none⟩) kn ck] 122),rowsA encI 3 1 (.slice ad j cp) ix] wx]
    [[],[(0,90)],[],[(2,92)],[],[(3,93),(4,94)],[(1,91),(5,95)]] [(0,90),(1,91),(2,92),(3,93),(4,94),(5,95),(6,96)] (by kernel_rfl) (by kernel_rfl) H.drew ⟨⟨qo,trivial⟩,⟨ql,trivial⟩,⟨qo,trivial⟩,⟨ql,trivial⟩,⟨qo,trivial⟩,⟨?_,trivial⟩,⟨?_,trivial⟩,trivial⟩ ?_
   ·intro vals wx hd HC
    simp only [GF] at hd
    have H:=HC
    simp only [CA] at H
    simp only [PS,hd]
    refine StStep.segL rfl rfl rfl rfl rfl rfl (m:=m) (cr:=crk) HMR.out HCRK.out HOK.out ⟨rfl,HC⟩
   ·intro vals wx hd HC
    simp only [GF] at hd
    have H:=HC
    simp only [CA] at H
    simp only [PS,hd]
    clear HC
    refine StStep.room rfl rfl rfl rfl rfl rfl H ((((ts.map Tr.key).drop at_).take m).map fU) HLK.out (seg_new (H.at pk) HIN.out.kk (Nat.le_refl _) HOK.out HLTK.out HMK2.out) (by intro u hu;obtain ⟨x,_,rfl⟩:=List.mem_map.1 hu;rfl) HRM.out2 HSK.out ?_
    intro wz H
    exact ⟨rfl,H⟩
   intro vals wx hd HC
   simp only [CA] at HC
   have H:=HC;clear HC
   simp only [GF] at hd
   simp only [PS,hd]
   clear hd
   go_wp2_with (first|refine sL ?_|(refine sS ?_;clear H;intros;rename_i H))
   refine bodyPost_ret (res_row_tmp rfl H rfl pk rfl rfl) rfl ?_
   rw [← HCAE.out] at H
   obtain ⟨hl1,hl2,hl3⟩:=HIN.out.last HQ.out.den HPX.out.ok HNX.out.symm (HN.out.trans HMR.out) (by rw [HN.out];exact hci) (by rw [HN.out];exact hck)
   rw [HN.out] at hl3
   exact ⟨X1,_,_,HIN.out.ext,HIN.out.ok,H.picks (.cons pk (.cons pk (.cons pk .nil))),.inl ⟨_,by rw [hl2];rfl,hl1,by rw [hl2];exact hl3⟩⟩
end
section
open Go.RowKit Go.Maps
attribute [local go_sem] InGr
section
variable {ops:Array Oper} {a:Act} {w w0:World} {M:List Nat} {L:List As} {o:Oper} {Rr:Value→World→Prop}
theorem run_mkroom {t e:TypeId} {n:Nat} {z:Value} {bytes:Nat} (hte:sliceO t=some e) (hi:infoO e=some (z,1,bytes)) (hz:z.cells=#[z]) (hn:n*bytes≤281474976710656) (h63:n≤16777216) (w:World) :
  (Instr.makeSlice t (.int .i64 0) (.int .i64 (n:Int))).run Tryz.prog w=.ok (.slice (some ⟨w.heap.size,0,none⟩) 0 n) (w.alloc (.cells (madeCells #[z] n) e)):=by
 obtain ⟨i,h2,h3,h4,h5⟩:=infoO_ok hi
 have hb3:(bytes:Int)*(n:Int)≤281474976710656:=by
  have h9:((n*bytes:Nat):Int)≤281474976710656:=by omega
  rw [Nat.mul_comm] at h9
  rwa [Int.natCast_mul] at h9
 have hrun:=run_makeSlice (P:=Tryz.prog) (w:=w) t e i z (sliceO_ok hte) h2 h3 .i64 .i64 0 n (by omega) (by omega) (by rw [h4];simp;omega) (by rw [h5];exact hb3) (by omega)
 rw [hz,h4] at hrun
 simpa only [Int.toNat_natCast,Nat.mul_one,Int.toNat_zero] using hrun
def blkV:Value→Nat
 |.pointer (some ad)=>ad.block
 |.slice (some ad) _ _=>ad.block
 |_=>0
def newA (cs:Array Value) (e:TypeId) (v:Value):As:=blk (blkV v) (.cells cs e)
theorem StStep.mkroom {t e:TypeId} {x y:Operand} {n:Nat} {z:Value} {bytes:Nat} (H:St w0 M L w) (hw:Region.wanted o (yielded ops a.tmps)=true) (ho:o.op=.makeSlice t x y) (hx:a.eval x=.int .i64 0) (hy:a.eval y=.int .i64 (n:Int)) (hte:sliceO t=some e) (hi:infoO e=some (z,1,bytes)) (hz:z.cells=#[z]) (hn:n*bytes≤281474976710656) (h63:n≤16777216)
  (h:∀ b w',St w0 M (newA (madeCells #[z] n) e (.slice (some ⟨b,0,none⟩) 0 n)::L) w'→Rr (.slice (some ⟨b,0,none⟩) 0 n) w'):StStep Tryz.prog ops o a w Rr :=
 StStep.val hw (by unfold execOp;simp only [ho,hx,hy,Sem.run_bind,run_mkroom hte hi hz hn h63 w,Result.andThen_ok];rfl) (h w.heap.size (w.alloc _) (H.alloc _))
end
def encT (x:Nat):List Value:=[.int .u8 x]
theorem encT_len:∀ x,(encT x).length=1:=fun _=>rfl
theorem Arr.fresh {C:Array Value} {cap:Nat} {f:Nat→Value} {a:Nat} (h:C.size=cap):Arr C cap f [] [] a:=⟨h,by simp,by simp⟩
structure LetIn (X X':Px) (text:List Nat) (n k:Nat) (C K:Array Value) (nids:List Nat):Prop where
 ext:X.Ext X'
 ok:PxOk X'
 hk:k≤n
 nl:nids.length=k
 den:DenL X'.S nids ((text.take k).map Tr.leaf)
 i:Arr C n fI nids [] n
 kk:Arr K n fU (((text.take k).map Tr.leaf).map Tr.key) [] n
 size:X'.S.list.length≤X.S.list.length+k
theorem LetIn.step {X X1 X2:Px} {text:List Nat} {n k id b ky:Nat} {C K:Array Value} {nids:List Nat} (h:LetIn X X1 text n k C K nids) (hn:text.length=n) (hb:text[k]?=some b) (ext:X1.Ext X2) (ok:PxOk X2) (hid:Den X2.S id (.leaf b)) (hky:(Tr.leaf b).key=ky) (hsz:X2.S.list.length≤X1.S.list.length+1) :
  LetIn X X2 text n (k+1) (putC C k [.int .i64 id]) (putC K k [.int .u64 ky]) (nids++[id]):=by
 have hk:=gelt hb
 have e:text.take (k+1)=text.take k++[b]:=by rw [List.take_add_one,hb];rfl
 have hkl:(((text.take k).map Tr.leaf).map Tr.key).length=k:=by rw [List.length_map,List.length_map,List.length_take];omega
 refine ⟨h.ext.trans ext,ok,by omega,by simp [h.nl],?_,?_,?_,by have:=h.size;omega⟩
 ·rw [e,List.map_append]
  exact (h.den.le h.ok.ok ext.le).append ⟨hid,trivial⟩
 ·have:=h.i.app [id] (a':=n) (Nat.le_refl _) (by rw [h.nl];simp;omega) (by rw [h.nl];simp;omega)
  rw [h.nl] at this
  exact this
 ·have:=h.kk.app [ky] (a':=n) (Nat.le_refl _) (by rw [hkl];simp;omega) (by rw [hkl];simp;omega)
  rw [hkl] at this
  rw [e,List.map_append,List.map_append]
  simp only [List.map_cons,List.map_nil,hky]
  exact this
abbrev LetPost (X:Px) (ts:List Tr) (n:Nat) (M:List Nat) (w:World) (e:Ending) (w':World):Prop :=
 ∃ X':Px,X.Ext X'∧PxOk X'∧((∃ (gi gk:Nat) (CI CK:Array Value) (ids:List Nat),e=.returned (.tuple #[.agg #[.slice (some ⟨gi,0,none⟩) n n,.slice (some ⟨gk,0,none⟩) n n],.nilIface])∧SeqIn X' CI CK n n ids ts∧X'.S.list.length≤X.S.list.length+n∧St w M [pA X',blk gi (.cells CI 26),blk gk (.cells CK 74)] w') ∨
  (e=.returned (.tuple #[.agg #[.slice none 0 0,.slice none 0 0],EV 3])∧X'.S.most≤X'.S.list.length∧X'.S.list.length<X.S.list.length+n∧St w M [pA X'] w'))
def LetRel (X:Px) (text:List Nat) (n gi gk b4 b6:Nat) (M:List Nat) (w:World) (v21:Value) (wr:World):Prop :=
 ∃ (X':Px) (k:Nat) (C K:Array Value) (nids:List Nat),v21=.int .i64 k∧LetIn X X' text n k C K nids∧St w M [pA X',blk b6 (.cells #[.slice (some ⟨gi,0,none⟩) k n,.slice (some ⟨gk,0,none⟩) k n] 122),blk gi (.cells C 26),blk gk (.cells K 74),blk b4 (.cells #[.slice none 0 0,.slice none 0 0] 122)] wr
attribute [local go_sem] StStep stAt stUpon in
theorem letters_p {X:Px} {P:PoolT} {text:List Nat} {v:Value} (hX:PxOk X) (hr:RowIn P encT 1 v text) (hb:∀ x∈text,x<256) (h1:1≤text.length) (hlen:text.length≤65536) (w:World) (hd:((pA X).sep deA).ho w) (hp:((pA X).sep (poolA P)).ho w) :
  Calls Tryz.prog 62 #[.pointer (some ⟨X.p,0,none⟩),v] w (LetPost X (text.map Tr.leaf) text.length (pA X).fp w):=by
 obtain ⟨g,of,c,rfl,_⟩:=hr.has (by omega)
 rw [sep_ho] at hd hp
 have H:=St.one hd.1
 have HK:Ks w (pA X).fp [deA,poolA P]:=⟨fun A hA=>by
   simp at hA
   rcases hA with rfl|rfl
   ·exact hd.2.1
   ·exact hp.2.1,fun A hA b hbA hm=>by
   simp at hA
   rcases hA with rfl|rfl
   ·exact hd.2.2 b hm hbA
   ·exact hp.2.2 b hm hbA⟩
 generalize (pA X).fp=M at *
 have HR:=Lib.hid hr
 have HB:=Lib.hid hb
 have HPX:=Lib.hid hX
 obtain ⟨n,hn⟩:∃ n,text.length=n:=⟨_,rfl⟩
 have HN:=Lib.hid hn
 rw [hn] at hlen h1 HR ⊢
 clear hd hp hr hb hX hn
 go_enter Tryz.func62,Tryz.ntmps62
 go_wp2_with (first|refine sL ?_|(refine sS ?_;clear H;intros;rename_i H))
 rename_i b4 _ _ _
 refine wp_region_rgx H [blk b4 (.cells #[.slice none 0 0,.slice none 0 0] 122),pA X] 8 [⟨[],[],[],fun v _=>v=.slice (some ⟨g,of,none⟩) n c,fun _ _=>[]⟩,⟨[],[],[0],fun v _=>v=.int .i64 n,fun _ _=>[]⟩,⟨[],[],[1],fun v _=>∃ b,v=.slice (some ⟨b,0,none⟩) 0 n,fun v _=>[newA (madeCells #[.int .i64 0] n) 26 v]⟩,⟨[],[],[],fun v _=>v=.slice (some ⟨g,of,none⟩) n c,fun _ _=>[]⟩,⟨[],[],[3],fun v _=>v=.int .i64 n,fun _ _=>[]⟩,⟨[],[],[4],fun v _=>∃ b,v=.slice (some ⟨b,0,none⟩) 0 n,fun v _=>[newA (madeCells #[.int .u64 0] n) 74 v]⟩,⟨[],[],[2,5],fun v l=>∃ p q,l=[.slice (some ⟨p,0,none⟩) 0 n,.slice (some ⟨q,0,none⟩) 0 n]∧v=.agg #[.slice (some ⟨p,0,none⟩) 0 n,.slice (some ⟨q,0,none⟩) 0 n],fun _ _=>[]⟩,⟨[],[],[],fun v _=>∃ b,v=.pointer (some ⟨b,0,none⟩),fun v _=>[newA #[.slice none 0 0,.slice none 0 0] 122 v]⟩] (by kernel_rfl)
  [[],[(0,12)],[(1,13)],[],[(3,15)],[(4,16)],[(2,14),(5,17)],[]] [(0,12),(1,13),(2,14),(3,15),(4,16),(5,17),(6,18),(7,6)] [0,1,2,3,4,5,6,7] (by kernel_rfl) (by kernel_rfl) (by kernel_rfl) ⟨?_,?_,?_,?_,?_,?_,?_,?_,trivial⟩ ?_
 ·intro vals wx X hd H
  clear hd
  replace H:=sP H
  simp only [putS,List.foldl_nil]
  go_simp
  first|exact H|exact ⟨rfl,H⟩
 ·intro vals wx X hd H
  have h0:vals 0=.slice (some ⟨g,of,none⟩) n c:=hd.1
  clear hd
  replace H:=sP H
  simp only [putS,List.foldl_nil,List.foldl_cons,Act.put,List.setIfInBounds_toArray,List.set_cons_zero,List.set_cons_succ,h0]
  clear h0
  go_simp
  first|exact H|exact ⟨rfl,H⟩
 ·intro vals wx X hd H
  have h1:vals 1=.int .i64 n:=hd.1
  clear hd
  replace H:=sP H
  simp only [putS,List.foldl_nil,List.foldl_cons,Act.put,List.setIfInBounds_toArray,List.set_cons_zero,List.set_cons_succ,h1]
  exact StStep.mkroom (bytes:=8) H rfl rfl rfl rfl rfl rfl rfl (by omega) (by omega) fun b w' H=>⟨⟨b,rfl⟩,H⟩
 ·intro vals wx X hd H
  clear hd
  replace H:=sP H
  simp only [putS,List.foldl_nil]
  go_simp
  first|exact H|exact ⟨rfl,H⟩
 ·intro vals wx X hd H
  have h3:vals 3=.slice (some ⟨g,of,none⟩) n c:=hd.1
  clear hd
  replace H:=sP H
  simp only [putS,List.foldl_nil,List.foldl_cons,Act.put,List.setIfInBounds_toArray,List.set_cons_zero,List.set_cons_succ,h3]
  clear h3
  go_simp
  first|exact H|exact ⟨rfl,H⟩
 ·intro vals wx X hd H
  have h4:vals 4=.int .i64 n:=hd.1
  clear hd
  replace H:=sP H
  simp only [putS,List.foldl_nil,List.foldl_cons,Act.put,List.setIfInBounds_toArray,List.set_cons_zero,List.set_cons_succ,h4]
  exact StStep.mkroom (bytes:=8) H rfl rfl rfl rfl rfl rfl rfl (by omega) (by omega) fun b w' H=>⟨⟨b,rfl⟩,H⟩
 ·intro vals wx X hd H
  have h2:=hd.1
  have h5:=hd.2.1
  clear hd
  replace H:=sP H
  simp only [putS,List.foldl_nil,List.foldl_cons,Act.put,List.setIfInBounds_toArray,List.set_cons_zero,List.set_cons_succ]
  obtain ⟨p,e2⟩:∃ b,vals 2=.slice (some ⟨b,0,none⟩) 0 n:=h2
  obtain ⟨q,e5⟩:∃ b,vals 5=.slice (some ⟨b,0,none⟩) 0 n:=h5
  have e9:[2,5].map vals=[.slice (some ⟨p,0,none⟩) 0 n,.slice (some ⟨q,0,none⟩) 0 n]:=by simp only [List.map_cons,List.map_nil,e2,e5]
  simp only [e9]
  rw [e2,e5]
  clear e2 e5 e9
  go_simp
  first|exact H|exact ⟨⟨p,q,rfl,rfl⟩,H⟩
 ·intro vals wx X hd H
  clear hd
  replace H:=sP H
  simp only [putS,List.foldl_nil]
  exact StStep.allocT H rfl rfl rfl rfl fun b w' H=>⟨⟨b,rfl⟩,H⟩
 intro vals wx hd H
 have h0:vals 0=.slice (some ⟨g,of,none⟩) n c:=hd.1
 have h1:vals 1=.int .i64 n:=hd.2.1
 have h2:=hd.2.2.1
 have h3:vals 3=.slice (some ⟨g,of,none⟩) n c:=hd.2.2.2.1
 have h4:vals 4=.int .i64 n:=hd.2.2.2.2.1
 have h5:=hd.2.2.2.2.2.1
 have h6:=hd.2.2.2.2.2.2.1
 have h7:=hd.2.2.2.2.2.2.2.1
 clear hd
 replace H:=sP H
 simp only [putS,List.foldl_nil,List.foldl_cons,Act.put,List.setIfInBounds_toArray,List.set_cons_zero,List.set_cons_succ,List.drop_succ_cons,List.drop_zero,h0,h1,h3,h4]
 clear h0 h1 h3 h4
 obtain ⟨gi,gk,e9,e6⟩:∃ p q,[2,5].map vals=[.slice (some ⟨p,0,none⟩) 0 n,.slice (some ⟨q,0,none⟩) 0 n]∧vals 6=.agg #[.slice (some ⟨p,0,none⟩) 0 n,.slice (some ⟨q,0,none⟩) 0 n]:=h6
 simp only [List.map_cons,List.map_nil,List.cons.injEq,and_true] at e9
 obtain ⟨b6,e7⟩:∃ b,vals 7=.pointer (some ⟨b,0,none⟩):=h7
 simp only [e9.1,e9.2,e6,e7,newA,blkV] at H ⊢
 clear e9 e6 e7 h2 h5
 go_wp2_with (first|refine sL ?_|(refine sS ?_;clear H;intros;rename_i H))
 go_loopw [21] (fun v21 wr=>LetRel X text n gi gk b4 b6 M w v21 wr) (fun v21 _=>n-(intOf v21).toNat)
 case atStart=>exact ⟨X,0,_,_,[],rfl,⟨.refl _,HPX.out,Nat.zero_le _,rfl,trivial,Arr.fresh (by have:=congrArg List.length (toList_madeCells_one (.int .i64 0) n);simpa using this),Arr.fresh (by have:=congrArg List.length (toList_madeCells_one (.int .u64 0) n);simpa using this),Nat.le_refl _⟩,H.picks (.cons pk (.cons pk (.cons pk (.cons pk (.cons pk .nil)))))⟩
 case round =>
  clear H
  obtain ⟨X1,k,C1,K1,nids,rfl,hin,H⟩:=hrel
  have hkl:=hin.hk
  have HIN:=Lib.hid hin
  have HSI:=Lib.hid hin.i.size
  have HSK:=Lib.hid hin.kk.size
  clear hin
  by_cases hlt:k<n
  ·obtain ⟨b,hb⟩:∃ b,text[k]?=some b:=⟨_,List.getElem?_eq_getElem (by rw [HN.out];exact hlt)⟩
   have HBX:=Lib.hid hb
   have HC:Hid (∀ w,(poolA P).ho w→w.cell? ⟨g,of+k,none⟩=some (.int .u8 b)):=Lib.hid fun w h=>HR.out.cell h encT_len hb rfl
   have hb2:=HB.out b (List.mem_of_getElem? hb)
   have HC0:Hid (∀ w,(pA X1).ho w→w.cell? ⟨X.p,0,none⟩=some (.pointer (some ⟨X1.s,0,none⟩))):=Lib.hid fun w h=>by have:=pA_c0 h;rwa [HIN.out.ext.p] at this
   have HLT:Hid (∀ w,(pA X1).ho w→Calls Tryz.prog 42 #[.pointer (some ⟨X1.s,0,none⟩),.int .u8 b] w (MPost X1 (.leaf b) (pA X1).fp w)):=Lib.hid fun w h=>letter_p b hb2 HIN.out.ok w h
   clear hb
   go_wp2_with (first|refine sL ?_|(refine sS ?_;clear H;intros;rename_i H)|((with_reducible refine isLoad ?_);refine AtLoad.cel rfl rfl rfl rfl (HC.out _ (H.known HK pk)) ?_;simp only [Act.put,puA,puB,puC]))
   with_reducible refine Calls.mono (HLT.out _ (H.get (A:=pA X1) pk)) ?_
   rintro e wc ⟨X2,id,c',rfl,m1,m2,m3,m4,hcl⟩
   replace H:=(H.pick (A:=pA X1) pk).call hcl
   clear hcl
   simp only [List.cons_append,List.nil_append] at H
   have HE:=Lib.hid m1
   have HO2:=Lib.hid m2
   have HM3:=Lib.hid m3
   rcases m4 with ⟨rfl,hid⟩|⟨rfl,rfl,hs,hmost⟩
   ·obtain ⟨ky,hky⟩:∃ ky,(Tr.leaf b).key=ky:=⟨_,rfl⟩
    have HKY:=Lib.hid hky
    have HID:=Lib.hid hid
    have HAD:Hid (∀ w,((sqA X2 b6 gi gk n n k C1 K1).sep deA).ho w→Calls Tryz.prog 96 #[.pointer (some ⟨X.p,0,none⟩),.pointer (some ⟨b6,0,none⟩),.int .i64 id] w (AddPost X2 b6 gi gk n n k C1 K1 id ky (sqA X2 b6 gi gk n n k C1 K1).fp w)):=Lib.hid fun w h=>by
     have:=add_p (k:=k) HO2.out HID.out HKY.out (by omega) (by omega) (by omega) HSI.out HSK.out w h
     rwa [HE.out.p,HIN.out.ext.p] at this
    clear m1 m2 m3 hid hky
    simp only [errV] at *
    replace H:=sqA_shut (H.picks (L':=[pA X2,blk b6 (.cells #[.slice (some ⟨gi,0,none⟩) k n,.slice (some ⟨gk,0,none⟩) k n] 122),blk gi (.cells C1 26),blk gk (.cells K1 74),blk b4 (.cells #[.slice none 0 0,.slice none 0 0] 122)]) (.cons pk (.cons pk (.cons pk (.cons pk (.cons pk .nil))))))
    go_wp2_with (first|refine sL ?_|(refine sS ?_;clear H;intros;rename_i H)|(go_at_call 96;with_reducible refine Calls.mono (HAD.out _ (H.sepK HK pk pk)) ?_;rintro e wc ⟨X3,y1,y2,y3,rfl,hb⟩;have HY:=Lib.hid (And.intro y1 (And.intro y2 y3));clear y1 y2 y3;replace H:=(H.pick (A:=sqA X2 b6 gi gk n n k C1 K1) pk).call hb;clear hb;simp only [List.cons_append,List.nil_append] at H;replace H:=sqA_open H))
    exact ⟨⟨X3,k+1,_,_,_,by go_num,HIN.out.step HN.out HBX.out (HE.out.trans HY.out.1) HY.out.2.1 (by rw [HY.out.2.2];exact HID.out) HKY.out (by rw [HY.out.2.2];exact HM3.out),H.picks (.cons pk (.cons pk (.cons pk (.cons pk (.cons pk .nil)))))⟩,by simp [intOf];omega⟩
   ·have HS:=Lib.hid hs
    have HMO:=Lib.hid hmost
    clear hs hmost m1 m2 m3
    simp only [errV,EV] at *
    go_wp2_with (first|refine sL ?_|(refine sS ?_;clear H;intros;rename_i H))
    refine bodyPost_ret (res_row_tmp rfl H rfl pk rfl rfl) rfl ?_
    exact ⟨X2,HIN.out.ext.trans HE.out,HO2.out,.inr ⟨rfl,by rw [HS.out];exact HMO.out,by rw [HS.out];have:=HIN.out.size;omega,H.picks (.cons pk .nil)⟩⟩
  ·obtain rfl:k=n:=by omega
   go_wp2_with (first|refine sL ?_|(refine sS ?_;clear H;intros;rename_i H))
   refine bodyPost_ret (res_row_tmp rfl H rfl pk rfl rfl) rfl ?_
   have hin:=HIN.out
   have htk:text.take k=text:=List.take_of_length_le (by rw [HN.out];exact Nat.le_refl _)
   have hden:=hin.den
   have hkk:=hin.kk
   rw [htk] at hden hkk
   exact ⟨X1,hin.ext,hin.ok,.inl ⟨gi,gk,C1,K1,nids,rfl,⟨hden,hin.i.forget,hkk.forget⟩,hin.size,H.picks (.cons pk (.cons pk (.cons pk .nil)))⟩⟩
end
section
open Go.RowKit Go.Maps
attribute [local go_sem] InGr
theorem lenL_runs (l:List Tr):lenL (runs l)=lenL l:=by
 have h:=groups_flat l
 have h2:∀ g:List (Tr×Nat),lenL (g.map powT)=lenL (g.flatMap fun p=>List.replicate p.2 p.1):=by
  intro g
  induction g with
  |nil=>rfl
  |cons p g ih =>
   rw [List.map_cons,lenL_cons,List.flatMap_cons,lenL_append,ih,lenL_rep]
   congr 1
   unfold powT
   split
   ·rename_i h1;rw [h1,Nat.mul_one]
   ·rfl
 unfold runs
 rw [h2,h]
theorem lenL_pairs (f:Tr→Tr→Bool):∀ l:List Tr,lenL (pairsF f l)=lenL l
 |[]=>rfl
 |[x]=>rfl
 |x::y::r=>by
  rw [pairsF]
  split
  ·rw [lenL_cons,lenL_pairs f r,lenL_cons,lenL_cons]
   show x.len+y.len+_=_
   omega
  ·rw [lenL_cons,lenL_pairs f (y::r),lenL_cons,lenL_cons,lenL_cons]
theorem lenL_step (m:Nat) (l:List Tr):lenL (stepP m l)=lenL l:=by
 unfold stepP
 split
 ·exact lenL_runs l
 ·exact lenL_pairs _ l
theorem lenL_seq (s:List Tr):∀ m,lenL (seqP s m)=lenL s
 |0=>rfl
 |m+1=>by rw [seqP,lenL_step,lenL_seq s m]
theorem lenL_leaf (l:List Nat):lenL (l.map Tr.leaf)=l.length:=by
 induction l with
 |nil=>rfl
 |cons x l ih=>rw [List.map_cons,lenL_cons,ih,List.length_cons];show 1+_=_;omega
theorem Canon.pow (T:Tr) (h:Canon T):T.Pow2:=by
 have:=h.pow2 T.lv T
 rw [lay_low (Nat.le_refl _)] at this
 exact this (by simp)
theorem Canon.one {T:Tr} (h:Canon T) {m:Nat} (hl:(T.lay m).length≤1):T.lay m=[T]:=by
 by_cases hm:m<T.lv
 ·have:=lay_two h.pow hm;omega
 ·exact lay_low (by omega)
theorem Canon.two {T:Tr} (h:Canon T) (hu:T.Upto 25339) {m:Nat} (hl:1<(T.lay m).length):m<25339:=by
 have h1:=hu.lv
 by_cases hm:m<T.lv
 ·omega
 ·rw [lay_low (by omega)] at hl;simp at hl
abbrev OfPost (X:Px) (T:Tr) (n:Nat) (M:List Nat) (w:World) (e:Ending) (w':World):Prop :=
 ∃ X':Px,X.Ext X'∧PxOk X'∧X'.S.list.length≤X.S.list.length+2*n∧((∃ id,e=.returned (.tuple #[.int .i64 (id:Nat),.nilIface])∧Den X'.S id T) ∨
  (e=.returned (.tuple #[.int .i64 0,EV 3])∧X'.S.most≤X'.S.list.length))∧St w M [pA X'] w'
structure OfIn (X X':Px) (T:Tr) (n l q:Nat) (C K:Array Value) (ids:List Nat):Prop where
 ext:X.Ext X'
 ok:PxOk X'
 inn:SeqIn X' C K n n ids (T.lay l)
 len:ids.length=q
 pos:1≤q
 size:X'.S.list.length+q≤X.S.list.length+2*n
def OfRel (X:Px) (T:Tr) (n gi gk b6:Nat) (M:List Nat) (w:World) (v8:Value) (wr:World):Prop :=
 ∃ (X':Px) (l q:Nat) (C K:Array Value) (ids:List Nat),v8=.int .i64 (l+1:Nat)∧OfIn X X' T n l q C K ids∧l≤25339∧St w M [pA X',blk b6 (.cells #[.slice (some ⟨gi,0,none⟩) q n,.slice (some ⟨gk,0,none⟩) q n] 122),blk gi (.cells C 26),blk gk (.cells K 74)] wr
theorem of_p {X:Px} {P:PoolT} {text:List Nat} {v:Value} {T:Tr} (hX:PxOk X) (hr:RowIn P encT 1 v text) (hb:∀ x∈text,x<256) (h1:1≤text.length) (hlen:text.length≤65536) (hT:Canon T) (h0:T.lay 0=text.map Tr.leaf) (hU:T.Upto 25339) (w:World) (hd:((pA X).sep deA).ho w) (hp:((pA X).sep (poolA P)).ho w) :
  Calls Tryz.prog 22 #[.pointer (some ⟨X.p,0,none⟩),v] w (OfPost X T text.length (pA X).fp w):=by
 obtain ⟨g,of,c,rfl,_⟩:=hr.has (by omega)
 have HLE:Hid (∀ w,((pA X).sep deA).ho w→((pA X).sep (poolA P)).ho w→Calls Tryz.prog 62 #[.pointer (some ⟨X.p,0,none⟩),.slice (some ⟨g,of,none⟩) text.length c] w (LetPost X (T.lay 0) text.length (pA X).fp w)):=Lib.hid fun w h1' h2'=>by rw [h0];exact letters_p hX hr hb h1 hlen w h1' h2'
 have HC0:Hid (∀ w,(pA X).ho w→w.cell? ⟨X.p,0,none⟩=some (.pointer (some ⟨X.s,0,none⟩))):=Lib.hid fun w h=>pA_c0 h
 rw [sep_ho] at hd hp
 have H:=St.one hd.1
 have HK:Ks w (pA X).fp [deA,poolA P]:=⟨fun A hA=>by
   simp at hA
   rcases hA with rfl|rfl
   ·exact hd.2.1
   ·exact hp.2.1,fun A hA b hbA hm=>by
   simp at hA
   rcases hA with rfl|rfl
   ·exact hd.2.2 b hm hbA
   ·exact hp.2.2 b hm hbA⟩
 generalize (pA X).fp=M at *
 have HML:Hid (∀ l,lenL (T.lay l)≤maxT):=Lib.hid fun l=>by
  rw [← hT.seq,h0,lenL_seq,lenL_leaf]
  unfold maxT;omega
 have HCN:=Lib.hid hT
 have HUP:=Lib.hid hU
 have HPX:=Lib.hid hX
 obtain ⟨n,hn⟩:∃ n,text.length=n:=⟨_,rfl⟩
 have HLN:Hid ((T.lay 0).length=n):=Lib.hid (by rw [h0,List.length_map,hn])
 rw [hn] at hlen h1 HLE ⊢
 clear hd hp hr hb hX hn hT h0 hU
 have d0:decide ((65536:Int)<(n:Int))=false:=by simp;omega
 have d1:((n:Int)==0)=false:=by simp;omega
 go_enter Tryz.func22,Tryz.ntmps22
 go_wp2_with (first|refine sL ?_|(refine sS ?_;clear H;intros;rename_i H))
 with_reducible refine Calls.mono (HLE.out _ (H.sepK HK pk pk) (H.sepK HK pk pk)) ?_
 rintro e wc ⟨X0,x1,x2,⟨gi,gk,CI,CK,ids,rfl,hs,hsz,hb⟩|⟨rfl,hm,hl,hb⟩⟩
 rotate_left
 ·clear H
  have H:=hb
  clear hb
  have HX:=Lib.hid (And.intro x1 (And.intro x2 (And.intro hm hl)))
  clear x1 x2 hm hl
  simp only [EV] at *
  go_wp2_with (first|refine sL ?_|(refine sS ?_;clear H;intros;rename_i H))
  go_ret2
  exact ⟨X0,HX.out.1,HX.out.2.1,by have:=HX.out.2.2.2;omega,.inr ⟨rfl,HX.out.2.2.1⟩,H.picks (.cons pk .nil)⟩
 ·clear H
  have H:=hb
  clear hb
  have HIN0:Hid (OfIn X X0 T n 0 n CI CK ids):=Lib.hid ⟨x1,x2,hs,by rw [hs.den.len,HLN.out],h1,by omega⟩
  clear x1 x2 hs hsz
  go_wp2_with (first|refine sL ?_|(refine sS ?_;clear H;intros;rename_i H))
  rename_i b6 _ _ _ _
  go_loopw [8] (fun v8 wr=>OfRel X T n gi gk b6 M w v8 wr) (fun v8 _=>25340-(intOf v8).toNat)
  case atStart=>exact ⟨X0,0,n,CI,CK,ids,rfl,HIN0.out,Nat.zero_le _,H.picks (.cons pk (.cons pk (.cons pk (.cons pk .nil))))⟩
  case round =>
   clear H HIN0
   obtain ⟨X1,l,q,C1,K1,ids1,rfl,hin,hl2,H⟩:=hrel
   have hq1:=hin.pos
   have HIN:=Lib.hid hin
   have hqn:q≤n:=by have:=hin.inn.i.len;rw [hin.len] at this;exact this
   have hql:(T.lay l).length=q:=by rw [← hin.inn.den.len,hin.len]
   have HQL:=Lib.hid hql
   clear hin hql
   by_cases hq:1<q
   ·have hlt:l<25339:=HCN.out.two HUP.out (by rw [HQL.out];exact hq)
    have d2:decide ((1:Int)<(q:Int))=true:=by simp;omega
    replace H:=((H.picks (L':=[blk gi (.cells C1 26),blk gk (.cells K1 74),pA X1,blk b6 (.cells #[.slice (some ⟨gi,0,none⟩) q n,.slice (some ⟨gk,0,none⟩) q n] 122)]) (.cons pk (.cons pk (.cons pk (.cons pk .nil))))).join.pick2 (A:=pA X1) (B:=(blk gi (.cells C1 26)).sep (blk gk (.cells K1 74))) pk pk).join
    by_cases hpar:(l+1)%2=1
    ·have HRU:Hid (∀ w,(((pA X1).sep ((blk gi (.cells C1 26)).sep (blk gk (.cells K1 74)))).sep deA).ho w→Calls Tryz.prog 63 #[.pointer (some ⟨X.p,0,none⟩),.agg #[.slice (some ⟨gi,0,none⟩) q n,.slice (some ⟨gk,0,none⟩) q n]] w (SeqPost X1 gi gk n n q (T.lay (l+1)) ((pA X1).sep ((blk gi (.cells C1 26)).sep (blk gk (.cells K1 74)))).fp w)):=Lib.hid fun w h=>by
      have:=runs_p HIN.out.ok HIN.out.inn (by rw [HIN.out.len];exact hq1) (by rw [HIN.out.len];omega) (HML.out l) w h
      rw [HIN.out.len,HIN.out.ext.p] at this
      have hst:=HCN.out.step l
      rw [stepP,if_pos hpar] at hst
      rwa [hst] at this
     go_wp2_with (first|refine sL ?_|(refine sS ?_;clear H;intros;rename_i H))
     with_reducible refine Calls.mono (HRU.out _ (H.sepK HK pk pk)) ?_
     rintro e wc ⟨X2,C2,K2,y1,y2,hcl,⟨ids2,rfl,hs,hsz⟩|⟨rfl,hmo,hsz⟩⟩
     ·replace H:=(H.pick (A:=((pA X1).sep ((blk gi (.cells C1 26)).sep (blk gk (.cells K1 74))))) pk).call hcl
      clear hcl
      simp only [List.cons_append,List.nil_append] at H
      obtain ⟨q2,hq2⟩:∃ q2,(T.lay (l+1)).length=q2:=⟨_,rfl⟩
      have HIN2:Hid (OfIn X X2 T n (l+1) q2 C2 K2 ids2):=Lib.hid ⟨HIN.out.ext.trans y1,y2,hs,by rw [hs.den.len,hq2],by rw [← hq2];exact lay_pos HCN.out.pow,by rw [← hq2];have:=HIN.out.size;omega⟩
      clear y1 y2 hs hsz
      rw [hq2]
      clear hq2
      go_wp2_with (first|refine sL ?_|(refine sS ?_;clear H;intros;rename_i H))
      exact ⟨⟨X2,l+1,q2,C2,K2,ids2,by go_num,HIN2.out,by omega,H.picks (.cons pk (.cons pk (.cons pk (.cons pk .nil))))⟩,by simp [intOf];omega⟩
     ·replace H:=(H.pick (A:=((pA X1).sep ((blk gi (.cells C1 26)).sep (blk gk (.cells K1 74))))) pk).call hcl
      clear hcl
      simp only [List.cons_append,List.nil_append] at H
      have HY:=Lib.hid (And.intro y1 (And.intro y2 (And.intro hmo hsz)))
      clear y1 y2 hmo hsz
      simp only [EV] at *
      go_wp2_with (first|refine sL ?_|(refine sS ?_;clear H;intros;rename_i H))
      go_ret2
      exact ⟨X2,HIN.out.ext.trans HY.out.1,HY.out.2.1,by have:=HY.out.2.2.2;have:=HIN.out.size;omega,.inr ⟨rfl,HY.out.2.2.1⟩,H.picks (.cons pk .nil)⟩
    ·have HRU:Hid (∀ w,(((pA X1).sep ((blk gi (.cells C1 26)).sep (blk gk (.cells K1 74)))).sep deA).ho w→Calls Tryz.prog 64 #[.pointer (some ⟨X.p,0,none⟩),.agg #[.slice (some ⟨gi,0,none⟩) q n,.slice (some ⟨gk,0,none⟩) q n],.int .i64 ((l:Int)+1)] w (SeqPost X1 gi gk n n q (T.lay (l+1)) ((pA X1).sep ((blk gi (.cells C1 26)).sep (blk gk (.cells K1 74)))).fp w)):=Lib.hid fun w h=>by
      have:=pairs_p (L:=l+1) HIN.out.ok HIN.out.inn (by omega) (by omega) (by omega) (by rw [HIN.out.len];exact hq1) (by rw [HIN.out.len];omega) (HML.out l) w h
      rw [HIN.out.len,HIN.out.ext.p] at this
      have hst:=HCN.out.step l
      rw [stepP,if_neg hpar] at hst
      rwa [hst] at this
     go_wp2_with (first|refine sL ?_|(refine sS ?_;clear H;intros;rename_i H))
     with_reducible refine Calls.mono (HRU.out _ (H.sepK HK pk pk)) ?_
     rintro e wc ⟨X2,C2,K2,y1,y2,hcl,⟨ids2,rfl,hs,hsz⟩|⟨rfl,hmo,hsz⟩⟩
     ·replace H:=(H.pick (A:=((pA X1).sep ((blk gi (.cells C1 26)).sep (blk gk (.cells K1 74))))) pk).call hcl
      clear hcl
      simp only [List.cons_append,List.nil_append] at H
      obtain ⟨q2,hq2⟩:∃ q2,(T.lay (l+1)).length=q2:=⟨_,rfl⟩
      have HIN2:Hid (OfIn X X2 T n (l+1) q2 C2 K2 ids2):=Lib.hid ⟨HIN.out.ext.trans y1,y2,hs,by rw [hs.den.len,hq2],by rw [← hq2];exact lay_pos HCN.out.pow,by rw [← hq2];have:=HIN.out.size;omega⟩
      clear y1 y2 hs hsz
      rw [hq2]
      clear hq2
      go_wp2_with (first|refine sL ?_|(refine sS ?_;clear H;intros;rename_i H))
      exact ⟨⟨X2,l+1,q2,C2,K2,ids2,by go_num,HIN2.out,by omega,H.picks (.cons pk (.cons pk (.cons pk (.cons pk .nil))))⟩,by simp [intOf];omega⟩
     ·replace H:=(H.pick (A:=((pA X1).sep ((blk gi (.cells C1 26)).sep (blk gk (.cells K1 74))))) pk).call hcl
      clear hcl
      simp only [List.cons_append,List.nil_append] at H
      have HY:=Lib.hid (And.intro y1 (And.intro y2 (And.intro hmo hsz)))
      clear y1 y2 hmo hsz
      simp only [EV] at *
      go_wp2_with (first|refine sL ?_|(refine sS ?_;clear H;intros;rename_i H))
      go_ret2
      exact ⟨X2,HIN.out.ext.trans HY.out.1,HY.out.2.1,by have:=HY.out.2.2.2;have:=HIN.out.size;omega,.inr ⟨rfl,HY.out.2.2.1⟩,H.picks (.cons pk .nil)⟩
   ·obtain rfl:q=1:=by omega
    have hone:=HCN.out.one (m:=l) (by rw [HQL.out];exact Nat.le_refl _)
    have hin:=HIN.out
    have hden:=hin.inn.den
    rw [hone] at hden
    obtain ⟨id,hid⟩:∃ id,ids1=[id]:=by
     have:=hin.len
     cases ids1 with
     |nil=>simp at this
     |cons a r=>cases r with
      |nil=>exact ⟨a,rfl⟩
      |cons _ _=>simp at this
    subst hid
    have HID:=Lib.hid hden.1
    have HC:Hid (∀ w,(blk gi (.cells C1 26)).ho w→w.cell? ⟨gi,0,none⟩=some (.int .i64 id)):=Lib.hid fun w h=>arr_cell h (HIN.out.inn.i.nw 0 id rfl)
    clear hone hin hden
    go_wp2_with (first|refine sL ?_|(refine sS ?_;clear H;intros;rename_i H))
    go_ret2
    exact ⟨X1,HIN.out.ext,HIN.out.ok,by have:=HIN.out.size;omega,.inl ⟨id,rfl,HID.out⟩,H.picks (.cons pk .nil)⟩
end
section
open Go.RowKit Go.Maps
attribute [local go_sem] InGr
structure Fr where
 id:Nat
 r:Rl
 lev:Nat
 hv:Nat
def Fr.cells (f:Fr):List Value:=[.int .i64 f.id,.int .i64 f.r.kind,.int .u8 f.r.letter,.int .i64 f.r.left,.int .i64 f.r.right,.int .i64 f.r.times,.int .i64 f.lev,.int .i64 f.hv]
def wholeN (r:Rl):Nat:=if r.kind=3 then r.times else 2
def childN (bk:Bool) (f:Fr):Nat:=if f.r.kind=2∧((f.hv=2∧bk=false)∨(f.hv=1∧bk=true)) then f.r.right else f.r.left
end
section
open Go.RowKit Go.Maps
attribute [local go_sem] InGr
end
section
structure FrOf (S:Sto) (bk:Bool) (q:Tr×Nat) (f:Fr):Prop where
 den:Den S f.id q.1
 lev:q.1.lev=some f.lev
 rule:∃ i x,f.id=i+1∧S.list[i]?=some x∧f.r=x.r
 lt:q.2<(kids q.1).length
 hv:f.hv=if bk then (kids q.1).length-q.2 else q.2+1
theorem FrOf.le {S S':Sto} {bk:Bool} {q:Tr×Nat} {f:Fr} (h:FrOf S bk q f) (hS:S.Ok) (hl:S.Le S'):FrOf S' bk q f:=by
 obtain ⟨i,x,h1,h2,h3⟩:=h.rule
 exact ⟨h.den.le hS hl,h.lev,⟨i,x,h1,hl.get h2,h3⟩,h.lt,h.hv⟩
theorem kids_rule {S:Sto} (hS:S.Ok) {i:Nat} {x:En} {t:Tr} (hx:S.list[i]?=some x) (ht:S.tr (i+1)=t) (hk:0<(kids t).length) :
  wholeN x.r=(kids t).length∧((∃ l r u v,x.r=⟨2,0,l,r,0⟩∧t=.pair u v∧Den S l u∧Den S r v)∨(∃ l u k,x.r=⟨3,0,l,0,k⟩∧t=.pow u k∧2≤k∧Den S l u)):=by
 cases rule_of hS hx with
 |letter b hb hr hw h1 =>
  rw [← ht,h1] at hk
  simp [kids] at hk
 |pair l r y z hl hr hy hz he hw hs h1 =>
  rw [h1] at ht
  subst ht
  refine ⟨by rw [he];rfl,.inl ⟨l+1,r+1,_,_,he,rfl,den_of hy,den_of hz⟩⟩
 |pow l k y hl hy h2 he hw hs h1 =>
  rw [h1] at ht
  subst ht
  refine ⟨by rw [he];simp [wholeN,kids],.inr ⟨l+1,_,k,he,rfl,h2,den_of hy⟩⟩
theorem FrOf.child {S:Sto} (hS:S.Ok) {bk:Bool} {q:Tr×Nat} {f:Fr} (h:FrOf S bk q f):∃ c,(kids q.1)[q.2]?=some c∧Den S (childN bk f) c:=by
 obtain ⟨t,j⟩:=q
 obtain ⟨i,x,e1,hx,e2⟩:=h.rule
 have hd:=h.den
 have hlt:=h.lt
 have hhv:=h.hv
 simp only at hd hlt hhv
 rw [e1] at hd
 obtain ⟨_,hc⟩:=kids_rule hS hx hd.2.2 (by omega)
 rcases hc with ⟨l,r,u,v,he,rfl,du,dv⟩|⟨l,u,k,he,rfl,hk,du⟩
 ·simp only [kids,List.length_cons,List.length_nil] at hlt hhv
  have hj:j=0∨j=1:=by omega
  rcases hj with rfl|rfl
  ·refine ⟨u,rfl,?_⟩
   unfold childN
   rw [e2,he]
   cases bk with
   |false=>simp only [Bool.false_eq_true,if_false] at hhv;rw [if_neg (by simp [hhv])];exact du
   |true=>simp only [if_true] at hhv;rw [if_neg (by simp [hhv])];exact du
  ·refine ⟨v,rfl,?_⟩
   unfold childN
   rw [e2,he]
   cases bk with
   |false=>simp only [Bool.false_eq_true,if_false] at hhv;rw [if_pos (by simp [hhv])];exact dv
   |true=>simp only [if_true] at hhv;rw [if_pos (by simp [hhv])];exact dv
 ·simp only [kids,List.length_replicate] at hlt
  refine ⟨u,by simp [kids,List.getElem?_replicate,hlt],?_⟩
  unfold childN
  rw [e2,he,if_neg (by simp)]
  exact du
theorem FrOf.open_ {S:Sto} (hS:S.Ok) {bk:Bool} {id i a:Nat} {x:En} {t:Tr} (hd:Den S id t) (hi:id=i+1) (hx:S.list[i]?=some x) (hl:t.lev=some a) (hk:0<(kids t).length):FrOf S bk (t,if bk then 0 else (kids t).length-1) ⟨id,x.r,a,wholeN x.r⟩:=by
 subst hi
 obtain ⟨hw,_⟩:=kids_rule hS hx hd.2.2 hk
 refine ⟨hd,hl,⟨i,x,rfl,hx,rfl⟩,?_,?_⟩
 ·simp only;split <;> omega
 ·simp only;rw [hw];cases bk <;> simp;omega
end
section
open Go.RowKit Go.Maps
structure EndAt (cs:Array Value) (o p:Nat) (bk:Bool) (pv:Value) (id ky:Nat):Prop where
 sz:o+5≤cs.size
 c0:cs[o]?=some (.pointer (some ⟨p,0,none⟩))
 c1:cs[o+1]?=some (.bool bk)
 c2:cs[o+2]?=some pv
 c3:cs[o+3]?=some (.int .i64 id)
 c4:cs[o+4]?=some (.int .u64 ky)
structure AlikeBut (cs cs':Array Value) (o:Nat):Prop where
 size:cs'.size=cs.size
 eq:∀ j,j<o∨o+5≤j→cs'[j]?=cs[j]?
theorem AlikeBut.refl (cs:Array Value) (o:Nat):AlikeBut cs cs o:=⟨rfl,fun _ _=>rfl⟩
theorem AlikeBut.trans {a b c:Array Value} {o:Nat} (h:AlikeBut a b o) (k:AlikeBut b c o):AlikeBut a c o:=⟨k.size.trans h.size,fun j hj=>(k.eq j hj).trans (h.eq j hj)⟩
theorem AlikeBut.set (cs:Array Value) (o j:Nat) (v:Value) (h1:o≤j) (h2:j<o+5):AlikeBut cs (cs.setIfInBounds j v) o:=⟨by simp,fun i hi=>by rw [Array.getElem?_setIfInBounds_ne (by omega)]⟩
def PathOf (S:Sto) (bk:Bool):List (Tr×Nat)→List Fr→Prop
 |[],fs=>fs=[]
 |q::p,fs=>∃ fs' f,fs=fs'++[f]∧FrOf S bk q f∧PathOf S bk p fs'
theorem PathOf.le {S S':Sto} {bk:Bool} (hS:S.Ok) (hl:S.Le S'):∀ {p:List (Tr×Nat)} {fs:List Fr},PathOf S bk p fs→PathOf S' bk p fs
 |[],_,h=>h
 |_::_,_,⟨fs',f,h1,h2,h3⟩=>⟨fs',f,h1,h2.le hS hl,PathOf.le hS hl h3⟩
theorem PathOf.len {S:Sto} {bk:Bool}:∀ {p:List (Tr×Nat)} {fs:List Fr},PathOf S bk p fs→fs.length=p.length
 |[],_,h=>by rw [h];rfl
 |_::p,_,⟨fs',f,h1,h2,h3⟩=>by rw [h1,List.length_append,PathOf.len h3];rfl
end
section
open Go.RowKit Go.Maps
attribute [local go_sem] InGr
theorem StStep.storeC {ops:Array Oper} {a:Act} {w w0:World} {M:List Nat} {L:List As} {o:Oper} {Rr:Value→World→Prop} {ty:TypeId} {x y:Operand} {g j:Nat} (hw:Region.wanted o (yielded ops a.tmps)=true) (ho:o.op=.store ty x y) (hx:a.eval x=.pointer (some ⟨g,j,none⟩)) {v:Value} (hr:isCellT ty=true) (hy:evalO a y=some v) (h1:v.oneCell'=true)
  {cs:Array Value} {t:TypeId} (H:St w0 M (blk g (.cells cs t)::L) w) (hl:j<cs.size) (h:∀ w',St w0 M (blk g (.cells (cs.setIfInBounds j v) t)::L) w'→Rr undef w'):StStep Tryz.prog ops o a w Rr:=by
 unfold StStep
 rw [if_pos hw]
 have hc:v.cells=#[v]:=by cases v <;> first|rfl|cases h1
 have hg:w.heap[g]?=some (.cells cs t):=H.at Pick.here
 have hr':=run_storeVar_at (P:=Tryz.prog) w g j t ty cs v hg (by rw [hc];exact cellTy_size (isCellT_ok hr)) (by rw [hc];simp;omega) (fun u hu=>by rw [hc] at hu;simp at hu;subst hu;exact h1)
 have e:(cs.toList.take j++v.cells.toList++cs.toList.drop (j+v.cells.size)).toArray=cs.setIfInBounds j v:=by
  rw [hc]
  apply Array.ext'
  simp only [Array.toList_setIfInBounds]
  rw [List.set_eq_take_append_cons_drop,if_pos (by simpa using hl)]
  simp
 rw [e] at hr'
 unfold stAt execOp
 simp only [ho,hx,evalO_eq hy,Instr.storeAt,Instr.sureAddr,Sem.run_bind,Sem.run_pure,Result.andThen_ok,hr']
 exact h _ (H.setRow Upd.here)
structure DownIn (X X':Px) (bk:Bool) (m o lim:Nat) (p:List (Tr×Nat)) (x:Tr) (cs cs':Array Value) (pv':Value) (fs':List Fr) (p':List (Tr×Nat)) (x':Tr) (f:Fr) (ky:Nat):Prop where
 ext:X.Ext X'
 ok:PxOk X'
 same:X'.S=X.S
 at_:EndAt cs' o X.p bk pv' f.id ky
 alike:AlikeBut cs cs' o
 path:PathOf X'.S bk p' fs'
 den:Den X'.S f.id x'
 gd:x'.Gd
 lev:x'.lev=some f.lev
 rule:∃ i en,f.id=i+1∧X'.S.list[i]?=some en∧f.r=en.r
 hv:f.hv=wholeN f.r
 way:downT bk m p' x'=downT bk m p x
 room:fs'.length+x'.lv≤lim
theorem DownIn.fr {X X':Px} {bk:Bool} {m o lim:Nat} {p:List (Tr×Nat)} {x:Tr} {cs cs':Array Value} {pv':Value} {fs':List Fr} {p':List (Tr×Nat)} {x':Tr} {f:Fr} {ky:Nat} (h:DownIn X X' bk m o lim p x cs cs' pv' fs' p' x' f ky) (hl:m<f.lev) :
  FrOf X'.S bk (x',if bk then 0 else (kids x').length-1) f∧∃ c,(kids x')[if bk then 0 else (kids x').length-1]?=some c∧Den X'.S (childN bk f) c∧c.Gd∧c.lv<x'.lv:=by
 obtain ⟨i,en,h1,h2,h3⟩:=h.rule
 have hk:2≤(kids x').length:=kids_two h.gd (by rw [lv_of h.lev];omega)
 have hfr:FrOf X'.S bk (x',if bk then 0 else (kids x').length-1) f:=by
  have:=FrOf.open_ (bk:=bk) h.ok.ok h.den h1 h2 h.lev (by omega)
  have e:f=⟨f.id,en.r,f.lev,wholeN en.r⟩:=by
   have hv:=h.hv
   rw [h3] at hv
   rw [← h3]
   cases f
   simp only at hv h3 ⊢
   rw [h3,hv]
  rw [e]
  exact this
 obtain ⟨c,hc,hd⟩:=hfr.child h.ok.ok
 exact ⟨hfr,c,hc,hd,(h.gd.kid (List.mem_of_getElem? hc)).1,(h.gd.kid (List.mem_of_getElem? hc)).2⟩
end
section
open Go.RowKit Go.Maps
attribute [local go_sem] InGr
end
section
abbrev EndP:=List (Tr×Nat)×Option Tr
def topAt (lv:Nat):List (Tr×Nat)→Option (Tr×Nat)
 |[]=>none
 |q::_=>if q.1.lv=lv then some q else none
def hvT (bk:Bool) (q:Tr×Nat):Nat:=if bk then (kids q.1).length-q.2 else q.2+1
def runT (bk:Bool) (lv:Nat) (p:List (Tr×Nat)):Nat×Bool:=match topAt lv p with|none=>(1,false)|some q=>(hvT bk q,decide (hvT bk q<(kids q.1).length))
def headT (M:List It) (e:EndP):Option Tr:=match M with|i::_=>some i.x|[]=>e.2
def lastT (M:List It) (d:EndP):Option Tr:=match M.getLast? with|some i=>some i.x|none=>d.2
theorem topAt_none {m:Nat} {p:List (Tr×Nat)} (h:topAt (m+1) p=none):TopN m p:=by
 intro t j p' e
 subst e
 simp only [topAt] at h
 split at h
 ·cases h
 ·assumption
theorem topAt_some {lv:Nat} {p:List (Tr×Nat)} {q:Tr×Nat} (h:topAt lv p=some q):∃ p',p=q::p'∧q.1.lv=lv:=by
 cases p with
 |nil=>cases h
 |cons r p =>
  simp only [topAt] at h
  split at h
  ·injection h with h;subst h;exact ⟨p,rfl,by assumption⟩
  ·cases h
theorem step_odd {m:Nat} (he:m%2=0) (l:List Tr):stepP (m+1) l=runs l:=by unfold stepP;rw [if_pos (by omega)]
theorem step_even {m:Nat} (ho:m%2=1) (l:List Tr):stepP (m+1) l=pairsF (fits (m+1)) l:=by unfold stepP;rw [if_neg (by omega)]
structure LOk (a:Tr) (m:Nat) (L R:List Tr) (M:List It) (d1:EndP) (M1:List It) (P:List Tr):Prop where
 lay:∃ Q,a.lay (m+1)=P++Q
 end_:EndL a m d1 (P.flatMap (Tr.lay m))
 up:EndL a (m+1) (upT false (m+1) d1) P
 mv:∃ Y,L=P.flatMap (Tr.lay m)++Y∧expI M1=Y++expI M
 cut:stepP (m+1) (P.flatMap (Tr.lay m)++(expI M1++R))=P++stepP (m+1) (expI M1++R)
structure ROk (b:Tr) (m:Nat) (R:List Tr) (M:List It) (e1:EndP) (M1:List It) (Q:List Tr):Prop where
 lay:∃ P,b.lay (m+1)=P++Q
 end_:EndR b m e1 (Q.flatMap (Tr.lay m))
 up:EndR b (m+1) (upT true (m+1) e1) Q
 mv:∃ Y,R=Y++Q.flatMap (Tr.lay m)∧expI M1=expI M++Y
 cut:stepP (m+1) (expI M1++Q.flatMap (Tr.lay m))=stepP (m+1) (expI M1)++Q
theorem LOk.none (a:Tr) (m:Nat) (R:List Tr) (M:List It):LOk a m [] R M ([],Option.none) M [] :=
 ⟨⟨_,(List.nil_append _).symm⟩,⟨rfl,rfl⟩,⟨rfl,rfl⟩,⟨[],by simp,by simp⟩,by simp⟩
theorem ROk.none (b:Tr) (m:Nat) (M:List It):ROk b m [] M ([],Option.none) M [] :=
 ⟨⟨_,(List.append_nil _).symm⟩,⟨rfl,rfl⟩,⟨rfl,rfl⟩,⟨[],by simp,by simp⟩,by simp⟩
def gRunL (lv:Nat) (d e:EndP) (M:List It):EndP×List It:=match d.2 with
 |none=>(d,M)
 |some x=>if (runT false lv d.1).2=true∨headT M e=some x then (dropT false (lv-1) (runT false lv d.1).1 d.1,⟨x,none,(runT false lv d.1).1⟩::M) else (d,M)
def gRunR (lv:Nat) (d e:EndP) (M:List It):EndP×List It:=match e.2 with
 |none=>(e,M)
 |some x=>if (runT true lv e.1).2=true∨lastT M d=some x then (dropT true (lv-1) (runT true lv e.1).1 e.1,M++[⟨x,none,(runT true lv e.1).1⟩]) else (e,M)
section
variable {a b:Tr} {m:Nat} {d e:EndP} {M:List It} {L R:List Tr}
theorem gRunL_ok (he:m%2=0) (hc:Canon a) (hd:EndL a m d L) (hh:∀ y,(expI M++R).head?=some y→headT M e=some y):∃ P,LOk a m L R M (gRunL (m+1) d e M).1 (gRunL (m+1) d e M).2 P:=by
 obtain ⟨p,o⟩:=d
 cases o with
 |none =>
  obtain ⟨rfl,rfl⟩:=hd
  exact ⟨[],LOk.none a m R M⟩
 |some x =>
  have hd:EdL a m p x L:=hd
  have hD:EndL a m (p,some x) L:=hd
  unfold gRunL
  simp only [Nat.add_sub_cancel]
  by_cases hmv:(runT false (m+1) p).2=true∨headT M e=some x
  ·rw [if_pos hmv]
   cases ht:topAt (m+1) p with
   |none =>
    have hr:runT false (m+1) p=(1,false):=by simp [runT,ht]
    rw [hr]
    obtain ⟨P,Q,h1,h2,h3,h4⟩:=rlMoveN he hc hd (topAt_none ht) (expI M++R)
    have hdr:=dropL (m:=m) hc.gd p x hd.zip hd.above
    rw [h2] at hdr h3 h4
    exact ⟨P,⟨Q,h1⟩,hdr,upL hc h1 hdr,⟨[x],h3,by simp [expI_cons,It.exp]⟩,by rw [step_odd he,step_odd he];simpa [expI_cons,It.exp] using h4⟩
   |some q =>
    obtain ⟨p',rfl,hq⟩:=topAt_some ht
    obtain ⟨t,j⟩:=q
    have hr:(runT false (m+1) ((t,j)::p')).1=j+1:=by simp [runT,ht,hvT]
    rw [hr]
    obtain ⟨P,Q,k,_,h1,h2,h3,h4⟩:=rlMoveT he hc hd hq (expI M++R)
    have hdr:=dropL (m:=m) hc.gd p' t hd.zip.tail.1 fun f hf=>hd.above f (by simp [hf])
    have hdt:dropT false m (j+1) ((t,j)::p')=dropT false m 1 p':=by
     simp only [dropT,Bool.false_eq_true,if_false]
     rw [if_neg (by omega)]
    rw [hdt]
    rw [h2] at hdr h3 h4
    exact ⟨P,⟨Q,h1⟩,hdr,upL hc h1 hdr,⟨_,h3,by simp [expI_cons,It.exp]⟩,by rw [step_odd he,step_odd he];simpa [expI_cons,It.exp] using h4⟩
  ·rw [if_neg hmv]
   have hn1:¬ (runT false (m+1) p).2=true:=fun h=>hmv (.inl h)
   have hn2:¬ headT M e=some x:=fun h=>hmv (.inr h)
   have hw:∃ P Q,a.lay (m+1)=P++Q∧L=P.flatMap (Tr.lay m):=by
    cases ht:topAt (m+1) p with
    |none=>exact rlWholeN hc hd (topAt_none ht)
    |some q =>
     obtain ⟨p',rfl,hq⟩:=topAt_some ht
     obtain ⟨t,j⟩:=q
     refine rlWholeT hc hd hq ?_
     have hlt:=gelt hd.zip.tail.2
     simp [runT,ht,hvT] at hn1
     omega
   obtain ⟨P,Q,h1,h2⟩:=hw
   refine ⟨P,⟨Q,h1⟩,by rw [← h2];exact hD,upL hc h1 (by rw [← h2];exact hD),⟨[],by simpa using h2,by simp⟩,?_⟩
   rw [step_odd he,step_odd he]
   refine rlKeep he hc h1 _ fun z y hz hy=>?_
   rw [← h2,hd.eq] at hz
   simp at hz
   subst hz
   intro hxy
   subst hxy
   exact hn2 (hh _ hy)
theorem gRunR_ok (he:m%2=0) (hc:Canon b) (hd:EndR b m e R) (hl:∀ z,(expI M).getLast?=some z→lastT M d=some z):∃ Q,ROk b m R M (gRunR (m+1) d e M).1 (gRunR (m+1) d e M).2 Q:=by
 obtain ⟨p,o⟩:=e
 cases o with
 |none =>
  obtain ⟨rfl,rfl⟩:=hd
  exact ⟨[],ROk.none b m M⟩
 |some x =>
  have hd:EdR b m p x R:=hd
  have hD:EndR b m (p,some x) R:=hd
  unfold gRunR
  simp only [Nat.add_sub_cancel]
  by_cases hmv:(runT true (m+1) p).2=true∨lastT M d=some x
  ·rw [if_pos hmv]
   cases ht:topAt (m+1) p with
   |none =>
    have hr:runT true (m+1) p=(1,false):=by simp [runT,ht]
    rw [hr]
    obtain ⟨P,Q,h1,h2,h4⟩:=rrMoveN he hc hd (topAt_none ht)
    have hdr:=dropR (m:=m) hc.gd p x hd.zip hd.above
    have h3:=hd.eq
    rw [h2] at hdr h3 h4
    have e1:expI (M++[⟨x,none,1⟩])=expI M++[x]:=by simp [expI_append,expI_cons,expI_nil,It.exp]
    refine ⟨Q,⟨P,h1⟩,hdr,upR hc h1 hdr,⟨[x],by simpa using h3,e1⟩,?_⟩
    rw [step_odd he,step_odd he]
    refine rr_cut he hc h1 _ fun z y hz hy=>?_
    rw [e1] at hz
    simp at hz
    subst hz
    exact h4 y hy
   |some q =>
    obtain ⟨p',rfl,hq⟩:=topAt_some ht
    obtain ⟨t,j⟩:=q
    obtain ⟨P,Q,k,rfl,hjk,h1,h2,h3,h4⟩:=rrMoveT he hc hd hq
    have hr:(runT true (m+1) ((Tr.pow x k,j)::p')).1=k-j:=by simp [runT,ht,hvT,kids]
    rw [hr]
    have hdr:=dropR (m:=m) hc.gd p' _ hd.zip.tail.1 fun f hf=>hd.above f (by simp [hf])
    have hdt:dropT true m (k-j) ((Tr.pow x k,j)::p')=dropT true m 1 p':=by
     simp only [dropT,if_true,kids,List.length_replicate]
     rw [if_neg (by omega)]
    rw [hdt]
    rw [h2] at hdr h3 h4
    have e1:expI (M++[⟨x,none,k-j⟩])=expI M++List.replicate (k-j) x:=by simp [expI_append,expI_cons,expI_nil,It.exp]
    refine ⟨Q,⟨P,h1⟩,hdr,upR hc h1 hdr,⟨_,h3,e1⟩,?_⟩
    rw [step_odd he,step_odd he]
    refine rr_cut he hc h1 _ fun z y hz hy=>?_
    rw [e1] at hz
    obtain ⟨n,hn⟩:=Nat.exists_eq_succ_of_ne_zero (show k-j≠0 by omega)
    rw [hn,List.replicate_succ',← List.append_assoc] at hz
    simp at hz
    subst hz
    exact h4 y hy
  ·rw [if_neg hmv]
   have hn1:¬ (runT true (m+1) p).2=true:=fun h=>hmv (.inl h)
   have hn2:¬ lastT M d=some x:=fun h=>hmv (.inr h)
   have hw:∃ P Q,b.lay (m+1)=P++Q∧R=Q.flatMap (Tr.lay m):=by
    cases ht:topAt (m+1) p with
    |none=>exact grKeepN hc hd (topAt_none ht)
    |some q =>
     obtain ⟨p',rfl,hq⟩:=topAt_some ht
     obtain ⟨t,j⟩:=q
     have hlt:=gelt hd.zip.tail.2
     have hj:j=0:=by
      simp [runT,ht,hvT] at hn1
      omega
     subst hj
     exact grKeepT hc hd hq
   obtain ⟨P,Q,h1,h2⟩:=hw
   refine ⟨Q,⟨P,h1⟩,by rw [← h2];exact hD,upR hc h1 (by rw [← h2];exact hD),⟨[],by simpa using h2,by simp⟩,?_⟩
   rw [step_odd he,step_odd he]
   refine rr_cut he hc h1 _ fun z y hz hy=>?_
   rw [← h2,hd.eq] at hy
   simp at hy
   subst hy
   intro hxy
   subst hxy
   exact hn2 (hl _ hz)
end
def keepP (bk:Bool) (lv:Nat) (p:List (Tr×Nat)) (x:Tr) (h:Option Tr):Bool:=match topAt lv p with
 |some q=>decide (hvT bk q=2)
 |none=>match h with|some y=>!(if bk then fits lv y x else fits lv x y)|none=>true
def gPairL (lv:Nat) (d e:EndP) (M:List It):EndP×List It:=match d.2 with
 |none=>(d,M)
 |some x=>if keepP false lv d.1 x (headT M e)=true then (d,M) else (dropT false (lv-1) 1 d.1,⟨x,none,1⟩::M)
def gPairR (lv:Nat) (d e:EndP) (M:List It):EndP×List It:=match e.2 with
 |none=>(e,M)
 |some x=>if keepP true lv e.1 x (lastT M d)=true then (e,M) else (dropT true (lv-1) 1 e.1,M++[⟨x,none,1⟩])
section
variable {a b:Tr} {m:Nat} {d e:EndP} {M:List It} {L R:List Tr}
theorem gPairL_ok (ho:m%2=1) (hc:Canon a) (hd:EndL a m d L) (hh:∀ y,(expI M++R).head?=some y→headT M e=some y):∃ P,LOk a m L R M (gPairL (m+1) d e M).1 (gPairL (m+1) d e M).2 P:=by
 obtain ⟨p,o⟩:=d
 cases o with
 |none =>
  obtain ⟨rfl,rfl⟩:=hd
  exact ⟨[],LOk.none a m R M⟩
 |some x =>
  have hd:EdL a m p x L:=hd
  have hD:EndL a m (p,some x) L:=hd
  unfold gPairL
  simp only [Nat.add_sub_cancel]
  have keep:(∃ P Q,a.lay (m+1)=P++Q∧L=P.flatMap (Tr.lay m)∧pairsF (fits (m+1)) (L++(expI M++R))=P++pairsF (fits (m+1)) (expI M++R))→∃ P,LOk a m L R M (p,some x) M P:=by
   rintro ⟨P,Q,h1,h2,h3⟩
   refine ⟨P,⟨Q,h1⟩,by rw [← h2];exact hD,upL hc h1 (by rw [← h2];exact hD),⟨[],by simpa using h2,by simp⟩,?_⟩
   rw [step_even ho,step_even ho,← h2]
   exact h3
  have move:(∃ P Q,a.lay (m+1)=P++Q∧before m p=P.flatMap (Tr.lay m)∧L=before m p++[x]∧pairsF (fits (m+1)) (before m p++x::(expI M++R))=P++pairsF (fits (m+1)) (x::(expI M++R)))→∃ P,LOk a m L R M (dropT false m 1 p) (⟨x,none,1⟩::M) P:=by
   rintro ⟨P,Q,h1,h2,h3,h4⟩
   have hdr:=dropL (m:=m) hc.gd p x hd.zip hd.above
   rw [h2] at hdr h3 h4
   exact ⟨P,⟨Q,h1⟩,hdr,upL hc h1 hdr,⟨[x],h3,by simp [expI_cons,It.exp]⟩,by rw [step_even ho,step_even ho];simpa [expI_cons,It.exp] using h4⟩
  cases ht:topAt (m+1) p with
  |none =>
   by_cases hk:keepP false (m+1) p x (headT M e)=true
   ·rw [if_pos hk]
    refine keep (glKeepN ho hc hd (topAt_none ht) _ fun y hy=>?_)
    unfold keepP at hk
    simp only [ht,hh y hy] at hk
    simpa using hk
   ·rw [if_neg hk]
    exact move (glMoveN ho hc hd (topAt_none ht) _)
  |some q =>
   obtain ⟨p',rfl,hq⟩:=topAt_some ht
   obtain ⟨t,j⟩:=q
   have hlt:=gelt hd.zip.tail.2
   obtain ⟨u,v,rfl,_⟩:=even_pair (hd.zip.tail.1.gd hc.gd).1 hq ho
   simp only [kids,List.length_cons,List.length_nil] at hlt
   by_cases hk:keepP false (m+1) ((Tr.pair u v,j)::p') x (headT M e)=true
   ·rw [if_pos hk]
    simp [keepP,ht,hvT] at hk
    exact keep (glKeepT ho hc hd hq (by omega) _)
   ·rw [if_neg hk]
    simp [keepP,ht,hvT] at hk
    obtain rfl:j=0:=by omega
    exact move (glMoveT ho hc hd hq _)
theorem gPairR_ok (ho:m%2=1) (hnt:isTie (m+1)=false) (hc:Canon b) (hd:EndR b m e R) (hl:∀ z,(expI M).getLast?=some z→lastT M d=some z):∃ Q,ROk b m R M (gPairR (m+1) d e M).1 (gPairR (m+1) d e M).2 Q:=by
 obtain ⟨p,o⟩:=e
 cases o with
 |none =>
  obtain ⟨rfl,rfl⟩:=hd
  exact ⟨[],ROk.none b m M⟩
 |some x =>
  have hd:EdR b m p x R:=hd
  have hD:EndR b m (p,some x) R:=hd
  unfold gPairR
  simp only [Nat.add_sub_cancel]
  have keep:(∃ P Q,b.lay (m+1)=P++Q∧R=Q.flatMap (Tr.lay m))→(∀ z,(expI M).getLast?=some z→fits (m+1) z x=false)→∃ Q,ROk b m R M (p,some x) M Q:=by
   rintro ⟨P,Q,h1,h2⟩ hf
   refine ⟨Q,⟨P,h1⟩,by rw [← h2];exact hD,upR hc h1 (by rw [← h2];exact hD),⟨[],by simpa using h2,by simp⟩,?_⟩
   rw [step_even ho,step_even ho]
   refine gr_cut ho hc h1 _ fun z y hz hy=>?_
   rw [← h2,hd.eq] at hy
   simp at hy
   subst hy
   exact hf z hz
  have move:(∃ P Q,b.lay (m+1)=P++Q∧tl m p=Q.flatMap (Tr.lay m)∧∀ y,(tl m p).head?=some y→fits (m+1) x y=false)→∃ Q,ROk b m R M (dropT true m 1 p) (M++[⟨x,none,1⟩]) Q:=by
   rintro ⟨P,Q,h1,h2,h4⟩
   have hdr:=dropR (m:=m) hc.gd p x hd.zip hd.above
   have h3:=hd.eq
   rw [h2] at hdr h3 h4
   have e1:expI (M++[⟨x,none,1⟩])=expI M++[x]:=by simp [expI_append,expI_cons,expI_nil,It.exp]
   refine ⟨Q,⟨P,h1⟩,hdr,upR hc h1 hdr,⟨[x],by simpa using h3,e1⟩,?_⟩
   rw [step_even ho,step_even ho]
   refine gr_cut ho hc h1 _ fun z y hz hy=>?_
   rw [e1] at hz
   simp at hz
   subst hz
   exact h4 y hy
  cases ht:topAt (m+1) p with
  |none =>
   by_cases hk:keepP true (m+1) p x (lastT M d)=true
   ·rw [if_pos hk]
    refine keep (grKeepN hc hd (topAt_none ht)) fun z hz=>?_
    unfold keepP at hk
    simp only [ht,hl z hz] at hk
    simpa using hk
   ·rw [if_neg hk]
    exact move (grMoveN ho hc hd (topAt_none ht))
  |some q =>
   obtain ⟨p',rfl,hq⟩:=topAt_some ht
   obtain ⟨t,j⟩:=q
   have hx:=hd.zip.tail.2
   have hlt:=gelt hx
   obtain ⟨u,v,rfl,hf⟩:=even_pair (hd.zip.tail.1.gd hc.gd).1 hq ho
   simp only [kids,List.length_cons,List.length_nil] at hlt
   by_cases hk:keepP true (m+1) ((Tr.pair u v,j)::p') x (lastT M d)=true
   ·rw [if_pos hk]
    simp [keepP,ht,hvT,kids] at hk
    obtain rfl:j=0:=by omega
    refine keep (grKeepT hc hd hq) fun z hz=>?_
    obtain rfl:u=x:=by simpa [kids] using hx
    exact (fits_nontie hnt hf z).2
   ·rw [if_neg hk]
    simp [keepP,ht,hvT,kids] at hk
    obtain ⟨P,Q,h1,h2,u',e1,hf'⟩:=grMoveT ho hc hd hq (by omega)
    exact move ⟨P,Q,h1,h2,fun y _=>(fits_nontie hnt hf' y).1⟩
end
end
section
def sndT:Tr→Option Tr
 |.pair _ v=>some v
 |_=>none
def strStep (lv:Nat) (p:List (Tr×Nat)) (x:Tr) (M:List It):EndP×List It:=match topAt lv p with
 |some q=>if hvT true q=2 then (match topAt (lv+1) p.tail with
   |some q2=>(dropT true (lv-1) (hvT true q2) p.tail,M++[⟨x,sndT q.1,hvT true q2⟩])
   |none=>(dropT true (lv-1) 1 p.tail,M++[⟨x,sndT q.1,1⟩]))
  else (dropT true (lv-1) 1 p,M++[⟨x,none,1⟩])
 |none=>(dropT true (lv-1) 1 p,M++[⟨x,none,1⟩])
inductive Strs (lv ky:Nat) (e0:EndP) (M0:List It):EndP→List It→Prop
 |zero:Strs lv ky e0 M0 e0 M0
 |step {p:List (Tr×Nat)} {x:Tr} {M:List It}:Strs lv ky e0 M0 (p,some x) M→x.key=ky→Strs lv ky e0 M0 (strStep lv p x M).1 (strStep lv p x M).2
def strKeep (lv:Nat) (p:List (Tr×Nat)) (x:Tr) (M:List It):Bool:=(match topAt lv p with|some q=>decide (hvT true q=2)|none=>true)&&(match M.getLast? with|some i=>decide (i.x.key≠x.key)|none=>true)
inductive GStr (lv:Nat) (e:EndP) (M:List It):EndP→List It→Prop
 |none:e.2=none→GStr lv e M e M
 |keep {p:List (Tr×Nat)} {x:Tr}:e=(p,some x)→strKeep lv p x M=true→GStr lv e M e M
 |go {p:List (Tr×Nat)} {x:Tr} {e':EndP} {M':List It}:e=(p,some x)→strKeep lv p x M=false→Strs lv x.key e M e' M'→(∀ y,e'.2=some y→y.key≠x.key)→GStr lv e M e' M'
def TieI (i:It):Prop:=1≤i.n∧((i.nx=none∧i.n=1)∨∃ y,i.nx=some y∧i.x.key=y.key)
def Tie (l:List It):Prop:=∀ i∈l,TieI i
theorem One.tie {l:List It} (h:One l):Tie l:=fun i hi=>⟨by have:=(h i hi).2;omega,.inl (h i hi)⟩
theorem Tie.snoc {l:List It} {i:It} (h:Tie l) (hi:TieI i):Tie (l++[i]):=fun j hj=>by
 rcases List.mem_append.1 hj with hj|hj
 ·exact h j hj
 ·simp at hj;subst hj;exact hi
theorem exp_one (x:Tr):It.exp ⟨x,none,1⟩=[x]:=rfl
theorem expI_snoc (M:List It) (i:It):expI (M++[i])=expI M++i.exp:=by simp [expI_append,expI_cons,expI_nil]
theorem turn_last (x v:Tr) (k:Nat) (h:1≤k):∃ l,(List.replicate k [x,v]).flatten=l++[v]:=by
 obtain ⟨n,rfl⟩:=Nat.exists_eq_succ_of_ne_zero (show k≠0 by omega)
 rw [List.replicate_succ']
 exact ⟨(List.replicate n [x,v]).flatten++[x],by simp⟩
section
variable {b:Tr} {m:Nat} {e0 e e':EndP} {M0 M M':List It} {R R0:List Tr} {ky:Nat}
theorem strs_inv (ho:m%2=1) (htie:isTie (m+1)=true) (hc:Canon b) (hd:EndR b m e0 R0) (hM0:Tie M0) (h:Strs (m+1) ky e0 M0 e M) :
  ∃ R Y,EndR b m e R∧R0=Y++R∧expI M=expI M0++Y∧Tie M∧((M=M0∧e=e0)∨((∃ P Q,b.lay (m+1)=P++Q∧R=Q.flatMap (Tr.lay m))∧∃ z,(expI M).getLast?=some z∧z.key=ky)):=by
 induction h with
 |zero=>exact ⟨R0,[],hd,rfl,by simp,hM0,.inl ⟨rfl,rfl⟩⟩
 |@step p x M hs hk ih =>
  obtain ⟨R,Y,h1,h2,h3,h4,_⟩:=ih
  have h1:EdR b m p x R:=h1
  have one:(∃ P Q,b.lay (m+1)=P++Q∧tl m p=Q.flatMap (Tr.lay m))→∃ R Y,EndR b m (dropT true m 1 p) R∧R0=Y++R∧expI (M++[⟨x,none,1⟩])=expI M0++Y∧Tie (M++[⟨x,none,1⟩])∧((M++[⟨x,none,1⟩]=M0∧dropT true m 1 p=e0)∨((∃ P Q,b.lay (m+1)=P++Q∧R=Q.flatMap (Tr.lay m))∧∃ z,(expI (M++[⟨x,none,1⟩])).getLast?=some z∧z.key=ky)):=by
   rintro ⟨P,Q,q1,q2⟩
   refine ⟨tl m p,Y++[x],dropR hc.gd p x h1.zip h1.above,?_,?_,h4.snoc ⟨Nat.le_refl _,.inl ⟨rfl,rfl⟩⟩,.inr ⟨⟨P,Q,q1,q2⟩,x,?_,hk⟩⟩
   ·rw [h2,h1.eq];simp
   ·rw [expI_snoc,h3,exp_one];simp
   ·rw [expI_snoc,exp_one];simp
  unfold strStep
  simp only [Nat.add_sub_cancel]
  cases ht:topAt (m+1) p with
  |none =>
   obtain ⟨P,Q,q1,q2,_⟩:=grMoveN ho hc h1 (topAt_none ht)
   exact one ⟨P,Q,q1,q2⟩
  |some q =>
   obtain ⟨p',rfl,hq⟩:=topAt_some ht
   obtain ⟨t,j⟩:=q
   have hx:=h1.zip.tail.2
   have hlt:=gelt hx
   have hg:=(h1.zip.tail.1.gd hc.gd).1
   simp only [List.tail_cons]
   by_cases hv:hvT true (t,j)=2
   ·rw [if_pos hv]
    obtain rfl:j=0:=by
     obtain ⟨u,v,rfl,_⟩:=even_pair hg hq ho
     simp [hvT,kids] at hv hlt
     omega
    obtain ⟨P,Q,v,q1,rfl,q3,q4,q5,q6⟩:=grPair ho hc h1 hq
    have hkv:x.key=v.key:=by rw [fits_tie htie] at q3;simpa using q3
    simp only [sndT]
    cases ht2:topAt (m+1+1) p' with
    |none =>
     refine ⟨tl m p',Y++[x,v],dropR hc.gd p' _ h1.zip.tail.1 (fun f hf=>h1.above f (by simp [hf])),?_,?_,h4.snoc ⟨Nat.le_refl _,.inr ⟨v,rfl,hkv⟩⟩,.inr ⟨⟨P++[Tr.pair x v],Q,by rw [q1];simp,q4⟩,v,?_,hkv.symm.trans hk⟩⟩
     ·rw [h2,q6];simp
     ·rw [expI_snoc,h3];simp [It.exp]
     ·rw [expI_snoc];simp [It.exp]
    |some q2 =>
     obtain ⟨p'',rfl,hq2⟩:=topAt_some ht2
     obtain ⟨t2,j2⟩:=q2
     have hz2:=h1.zip.tail.1
     have hx2:=hz2.tail.2
     have hlt2:=gelt hx2
     have hg2:=(hz2.tail.1.gd hc.gd).1
     obtain ⟨s,k,rfl,hk2⟩:=odd_pow hg2 hq2 (by omega)
     obtain rfl:Tr.pair x v=s:=List.eq_of_mem_replicate (List.mem_of_getElem? hx2)
     simp only [kids,List.length_replicate] at hlt2
     have hkj:hvT true (Tr.pow (Tr.pair x v) k,j2)=k-j2:=by simp [hvT,kids]
     simp only [hkj]
     have hdt:dropT true m (k-j2) ((Tr.pow (Tr.pair x v) k,j2)::p'')=dropT true m 1 p'':=by
      simp only [dropT,if_true,kids,List.length_replicate]
      rw [if_neg (by omega)]
     rw [hdt]
     obtain ⟨n,hn⟩:∃ n,k-j2=n+1:=⟨k-j2-1,by omega⟩
     have hlay:(Tr.pair x v).lay m=[x,v]:=lay_kids hg hq
     have hR:R=(List.replicate (k-j2) [x,v]).flatten++tl m p'':=by
      rw [q6]
      simp only [tl,kids,List.drop_replicate,List.flatMap_replicate,hlay]
      rw [show k-(j2+1)=n by omega,hn]
      simp [List.replicate_succ]
     have hQ:Q=List.replicate n (Tr.pair x v)++tl (m+1) p'':=by
      rw [q5]
      simp only [tl,kids,List.drop_replicate,List.flatMap_replicate]
      rw [show k-(j2+1)=n by omega,lay_low (m:=m+1) (t:=Tr.pair x v) (Nat.le_of_eq hq)]
      congr 1
      simp
     obtain ⟨l,hl⟩:=turn_last x v (k-j2) (by omega)
     refine ⟨tl m p'',Y++(List.replicate (k-j2) [x,v]).flatten,dropR hc.gd p'' _ hz2.tail.1 (fun f hf=>h1.above f (by simp [hf])),?_,?_,h4.snoc ⟨by simp only;omega,.inr ⟨v,rfl,hkv⟩⟩,.inr ⟨⟨P++Tr.pair x v::List.replicate n (Tr.pair x v),tl (m+1) p'',by rw [q1,hQ];simp,(tl_up p'').symm⟩,v,?_,hkv.symm.trans hk⟩⟩
     ·rw [h2,hR];simp
     ·rw [expI_snoc,h3];simp [It.exp]
     ·rw [expI_snoc]
      simp only [It.exp]
      rw [hl]
      simp
   ·rw [if_neg hv]
    have hj:j≠0:=by
     rintro rfl
     obtain ⟨u,v,rfl,_⟩:=even_pair hg hq ho
     simp [hvT,kids] at hv
    obtain ⟨P,Q,q1,q2,_⟩:=grMoveT ho hc h1 hq hj
    exact one ⟨P,Q,q1,q2⟩
theorem gStr_ok (ho:m%2=1) (htie:isTie (m+1)=true) (hc:Canon b) (hd:EndR b m e R) (hM:One M) (h:GStr (m+1) e M e' M'):(∃ Q,ROk b m R M e' M' Q)∧Tie M':=by
 cases h with
 |none he =>
  obtain ⟨p,o⟩:=e
  simp only at he
  subst he
  obtain ⟨rfl,rfl⟩:=hd
  exact ⟨⟨[],ROk.none b m M⟩,hM.tie⟩
 |@keep p x he hk =>
  subst he
  refine ⟨?_,hM.tie⟩
  have hd:EdR b m p x R:=hd
  have hD:EndR b m (p,some x) R:=hd
  unfold strKeep at hk
  simp only [Bool.and_eq_true] at hk
  have hw:∃ P Q,b.lay (m+1)=P++Q∧R=Q.flatMap (Tr.lay m):=by
   cases ht:topAt (m+1) p with
   |none=>exact grKeepN hc hd (topAt_none ht)
   |some q =>
    obtain ⟨p',rfl,hq⟩:=topAt_some ht
    obtain ⟨t,j⟩:=q
    have hlt:=gelt hd.zip.tail.2
    obtain ⟨u,v,rfl,_⟩:=even_pair (hd.zip.tail.1.gd hc.gd).1 hq ho
    have hk1:=hk.1
    simp [ht,hvT,kids] at hk1 hlt
    obtain rfl:j=0:=by omega
    exact grKeepT hc hd hq
  obtain ⟨P,Q,h1,h2⟩:=hw
  refine ⟨Q,⟨P,h1⟩,by rw [← h2];exact hD,upR hc h1 (by rw [← h2];exact hD),⟨[],by simpa using h2,by simp⟩,?_⟩
  rw [step_even ho,step_even ho]
  refine gr_cut ho hc h1 _ fun z y hz hy=>?_
  rw [← h2,hd.eq] at hy
  simp at hy
  subst hy
  rw [fits_tie htie]
  rw [hM.exp,List.getLast?_map] at hz
  cases hl:M.getLast? with
  |none=>rw [hl] at hz;cases hz
  |some i =>
   rw [hl] at hz
   simp at hz
   have hk2:=hk.2
   rw [hl] at hk2
   simp at hk2
   rw [← hz]
   simpa using hk2
 |@go p x e' M' he hk hs hne =>
  subst he
  obtain ⟨R',Y,h1,h2,h3,h4,h5⟩:=strs_inv ho htie hc hd hM.tie hs
  refine ⟨?_,h4⟩
  rcases h5 with ⟨rfl,rfl⟩|⟨⟨P,Q,q1,q2⟩,z0,hz0,hzk⟩
  ·exact absurd rfl (hne x rfl)
  ·rw [q2] at h1 h2
   refine ⟨Q,⟨P,q1⟩,h1,upR hc q1 h1,⟨Y,h2,h3⟩,?_⟩
   rw [step_even ho,step_even ho]
   refine gr_cut ho hc q1 _ fun z y hz hy=>?_
   rw [hz0] at hz
   injection hz with hz
   subst hz
   rw [fits_tie htie,hzk]
   obtain ⟨p',o⟩:=e'
   cases o with
   |none=>obtain ⟨_,h⟩:=h1;rw [h] at hy;cases hy
   |some y' =>
    have h1:EdR b m p' y' _:=h1
    rw [h1.eq] at hy
    simp at hy
    subst hy
    have:=hne y' rfl
    simp
    exact fun e=>this e.symm
end
theorem push_all:∀ {M acc:List It},Sg acc→ApI acc→Sg M→Sg (M.foldl pushI acc)∧ApI (M.foldl pushI acc)∧expI (M.foldl pushI acc)=expI acc++expI M
 |[],acc,h1,h2,_=>⟨h1,h2,by simp [expI_nil]⟩
 |i::M,acc,h1,h2,h3=>by
  obtain ⟨p1,p2⟩:=push_sg h1 (h3 i (by simp))
  obtain ⟨q1,q2,q3⟩:=push_all p1 (push_ap (i:=i) h2) (fun j hj=>h3 j (by simp [hj]):Sg M)
  exact ⟨q1,q2,by rw [List.foldl_cons,q3,p2,expI_cons];simp⟩
def mRuns (M:List It):List It:=(M.foldl pushI []).map powI
theorem mRuns_ok {M:List It} (h:Sg M):One (mRuns M)∧expI (mRuns M)=runs (expI M):=by
 obtain ⟨h1,h2,h3⟩:=push_all (M:=M) (acc:=[]) (fun i hi=>by simp at hi) trivial h
 exact ⟨powI_one h1,by unfold mRuns;rw [runs_exp h1 h2,h3];simp [expI_nil]⟩
def mPairs (lv:Nat):List It→List It→List It
 |acc,[]=>acc
 |acc,[x]=>pushI acc x
 |acc,x::y::r=>if fits lv x.x y.x=true then mPairs lv (pushI acc ⟨.pair x.x y.x,none,1⟩) r else mPairs lv (pushI acc x) (y::r)
termination_by _ l=>l.length
theorem mPairs_ok (lv:Nat):∀ {M acc:List It},Sg acc→One M→Sg (mPairs lv acc M)∧expI (mPairs lv acc M)=expI acc++pairsF (fits lv) (expI M)
 |[],acc,h1,_=>by unfold mPairs;exact ⟨h1,by simp [expI_nil,pairsF]⟩
 |[x],acc,h1,h2=>by
  have hx:=h2 x (by simp)
  obtain ⟨p1,p2⟩:=push_sg (i:=x) h1 ⟨hx.1,by omega⟩
  unfold mPairs
  exact ⟨p1,by rw [p2];simp [expI_cons,expI_nil,It.exp,hx.1,hx.2,pairsF]⟩
 |x::y::r,acc,h1,h2=>by
  have hx:=h2 x (by simp)
  have hy:=h2 y (by simp)
  have e:expI (x::y::r)=x.x::y.x::expI r:=by simp [expI_cons,It.exp,hx.1,hx.2,hy.1,hy.2]
  have e2:expI (y::r)=y.x::expI r:=by simp [expI_cons,It.exp,hy.1,hy.2]
  unfold mPairs
  rw [e]
  by_cases hf:fits lv x.x y.x=true
  ·rw [if_pos hf,pairs_two _ _ _ _ hf]
   obtain ⟨p1,p2⟩:=push_sg (i:=⟨.pair x.x y.x,none,1⟩) h1 ⟨rfl,Nat.le_refl _⟩
   obtain ⟨q1,q2⟩:=mPairs_ok lv (M:=r) p1 fun j hj=>h2 j (by simp [hj])
   exact ⟨q1,by rw [q2,p2,exp_one];simp⟩
  ·rw [if_neg hf,pairs_skip _ _ _ fun z hz=>by simp at hz;subst hz;simpa using hf]
   obtain ⟨p1,p2⟩:=push_sg (i:=x) h1 ⟨hx.1,by omega⟩
   obtain ⟨q1,q2⟩:=mPairs_ok lv (M:=y::r) p1 fun j hj=>h2 j (by simp at hj ⊢;exact .inr hj)
   refine ⟨q1,?_⟩
   rw [q2,p2,e2]
   simp [It.exp,hx.1,hx.2]
termination_by M=>M.length
def mStr0 (l:List It) (i:It):List It×Option Tr:=match i.nx with
 |none=>(l,some i.x)
 |some y=>(pushI l ⟨.pair i.x y,none,i.n⟩,none)
def mStr1 (s:List It×Option Tr) (i:It):List It×Option Tr:=match s.2 with
 |none=>mStr0 s.1 i
 |some o=>if o.key=i.x.key then ((match i.nx with
   |some y=>if 1<i.n then pushI (pushI s.1 ⟨.pair o i.x,none,1⟩) ⟨.pair y i.x,none,i.n-1⟩ else pushI s.1 ⟨.pair o i.x,none,1⟩
   |none=>pushI s.1 ⟨.pair o i.x,none,1⟩),i.nx) else mStr0 (pushI s.1 ⟨o,none,1⟩) i
def mStrE (s:List It×Option Tr):List It:=match s.2 with|none=>s.1|some o=>pushI s.1 ⟨o,none,1⟩
section
variable {lv:Nat} (htie:isTie lv=true)
include htie
theorem mStr0_ok {l:List It} {i:It} (hs:Sg l) (hi:TieI i) (Z:List Tr):Sg (mStr0 l i).1∧expI (mStr0 l i).1++pairsF (fits lv) ((mStr0 l i).2.toList++Z)=expI l++pairsF (fits lv) (i.exp++Z):=by
 obtain ⟨h1,h2⟩:=hi
 unfold mStr0
 rcases h2 with ⟨h3,h4⟩|⟨y,h3,h4⟩
 ·rw [h3]
  exact ⟨hs,by simp [It.exp,h3,h4]⟩
 ·rw [h3]
  obtain ⟨p1,p2⟩:=push_sg (i:=⟨.pair i.x y,none,i.n⟩) hs ⟨rfl,h1⟩
  refine ⟨p1,?_⟩
  simp only [It.exp,h3]
  rw [p2,pairs_turn _ _ _ (by rw [fits_tie htie];simpa using h4)]
  simp [It.exp]
theorem mStr1_ok {s:List It×Option Tr} {i:It} (hs:Sg s.1) (hi:TieI i) (Z:List Tr):Sg (mStr1 s i).1∧expI (mStr1 s i).1++pairsF (fits lv) ((mStr1 s i).2.toList++Z)=expI s.1++pairsF (fits lv) (s.2.toList++(i.exp++Z)):=by
 obtain ⟨l,o⟩:=s
 cases o with
 |none=>exact mStr0_ok htie hs hi Z
 |some o =>
  unfold mStr1
  simp only
  by_cases hk:o.key=i.x.key
  ·rw [if_pos hk]
   have hf:fits lv o i.x=true:=by rw [fits_tie htie];simpa using hk
   obtain ⟨p1,p2⟩:=push_sg (i:=⟨.pair o i.x,none,1⟩) hs ⟨rfl,Nat.le_refl _⟩
   obtain ⟨h1,h2⟩:=hi
   rcases h2 with ⟨h3,h4⟩|⟨y,h3,h4⟩
   ·rw [h3]
    refine ⟨p1,?_⟩
    simp only [It.exp,h3,h4]
    rw [p2]
    simp only [Option.toList,List.nil_append,List.replicate_succ,List.replicate_zero,List.cons_append]
    rw [pairs_two _ _ _ _ hf]
    simp [It.exp]
   ·rw [h3]
    obtain ⟨n,hn⟩:=Nat.exists_eq_succ_of_ne_zero (show i.n≠0 by omega)
    have e1:(i.exp++Z)=i.x::(List.replicate n [y,i.x]).flatten++(y::Z):=by
     simp only [It.exp,h3,hn,List.replicate_succ,List.flatten_cons,List.cons_append,List.nil_append,List.append_assoc]
     have:=turn_shift y i.x n
     rw [← List.cons_append,this]
     simp
    have hf2:fits lv y i.x=true:=by rw [fits_tie htie];simpa using h4.symm
    have e2:pairsF (fits lv) ((some o).toList++(i.exp++Z))=.pair o i.x::(List.replicate n (Tr.pair y i.x)++pairsF (fits lv) (y::Z)):=by
     rw [e1]
     simp only [Option.toList,List.cons_append,List.nil_append]
     rw [pairs_two _ _ _ _ hf,pairs_turn _ _ _ hf2]
    rw [e2]
    simp only
    by_cases h5:1<i.n
    ·rw [if_pos h5]
     obtain ⟨q1,q2⟩:=push_sg (i:=⟨.pair y i.x,none,i.n-1⟩) p1 ⟨rfl,by simp only;omega⟩
     refine ⟨q1,?_⟩
     rw [q2,p2]
     simp [It.exp,show i.n-1=n by omega]
    ·rw [if_neg h5]
     refine ⟨p1,?_⟩
     rw [p2]
     simp [It.exp,show n=0 by omega]
  ·rw [if_neg hk]
   obtain ⟨p1,p2⟩:=push_sg (i:=⟨o,none,1⟩) hs ⟨rfl,Nat.le_refl _⟩
   obtain ⟨q1,q2⟩:=mStr0_ok htie (l:=pushI l ⟨o,none,1⟩) p1 hi Z
   refine ⟨q1,?_⟩
   rw [q2,p2]
   simp only [Option.toList,List.cons_append,List.nil_append,exp_one]
   rw [pairs_skip _ o (i.exp++Z) fun z hz=>?_]
   ·simp
   ·have:z=i.x:=by
     obtain ⟨h1,h2⟩:=hi
     obtain ⟨n,hn⟩:=Nat.exists_eq_succ_of_ne_zero (show i.n≠0 by omega)
     rcases h2 with ⟨h3,h4⟩|⟨y,h3,h4⟩
     ·simp [It.exp,h3,h4] at hz;exact hz.symm
     ·simp [It.exp,h3,hn,List.replicate_succ] at hz;exact hz.symm
    subst this
    rw [fits_tie htie]
    simpa using hk
theorem mStrs_ok:∀ {M:List It} {s:List It×Option Tr},Sg s.1→Tie M→Sg (mStrE (M.foldl mStr1 s))∧expI (mStrE (M.foldl mStr1 s))=expI s.1++pairsF (fits lv) (s.2.toList++expI M)
 |[],(l,none),h1,_=>⟨h1,by simp [mStrE,expI_nil,pairsF]⟩
 |[],(l,some o),h1,_=>by
  obtain ⟨p1,p2⟩:=push_sg (i:=⟨o,none,1⟩) h1 ⟨rfl,Nat.le_refl _⟩
  exact ⟨p1,by simp only [List.foldl_nil,mStrE];rw [p2];simp [expI_nil,pairsF,It.exp]⟩
 |i::M,s,h1,h2=>by
  obtain ⟨p1,p2⟩:=mStr1_ok htie h1 (h2 i (by simp)) (expI M)
  obtain ⟨q1,q2⟩:=mStrs_ok (M:=M) (s:=mStr1 s i) p1 fun j hj=>h2 j (by simp [hj])
  exact ⟨q1,by rw [List.foldl_cons,q2,p2,expI_cons]⟩
end
theorem head_exp {b:Tr} {m:Nat} {e:EndP} {R:List Tr} {M:List It} (hM:Sg M) (hr:EndR b m e R):∀ y,(expI M++R).head?=some y→headT M e=some y:=by
 intro y hy
 cases M with
 |nil =>
  obtain ⟨p,o⟩:=e
  simp only [expI_nil,List.nil_append] at hy
  cases o with
  |none=>obtain ⟨_,rfl⟩:=hr;cases hy
  |some x =>
   have hr:EdR b m p x R:=hr
   rw [hr.eq] at hy
   simpa [headT] using hy
 |cons i M =>
  have hi:=hM i (by simp)
  obtain ⟨n,hn⟩:=Nat.exists_eq_succ_of_ne_zero (show i.n≠0 by omega)
  simpa [expI_cons,It.exp,hi.1,hn,List.replicate_succ,headT] using hy
theorem last_exp {M:List It} (d:EndP) (hM:Sg M):∀ z,(expI M).getLast?=some z→lastT M d=some z:=by
 intro z hz
 rcases snoc_cases M with rfl|⟨M',i,rfl⟩
 ·cases hz
 ·have hi:=hM i (by simp)
  obtain ⟨n,hn⟩:=Nat.exists_eq_succ_of_ne_zero (show i.n≠0 by omega)
  rw [expI_snoc] at hz
  simp only [It.exp,hi.1,hn,List.replicate_succ'] at hz
  rw [← List.append_assoc] at hz
  simpa [lastT] using hz
theorem level_ok {a b:Tr} {m:Nat} {M M1 M2 M3:List It} {L R s P Q:List Tr} {d1 e2:EndP} (hs:seqP s m=L++expI M++R) (hl:LOk a m L R M d1 M1 P) (hr:ROk b m R M1 e2 M2 Q) (hm:expI M3=stepP (m+1) (expI M2)):seqP s (m+1)=P++expI M3++Q:=by
 obtain ⟨Y,y1,y2⟩:=hl.mv
 obtain ⟨Z,z1,z2⟩:=hr.mv
 show stepP (m+1) (seqP s m)=_
 have e1:L++expI M++R=P.flatMap (Tr.lay m)++(expI M1++R):=by rw [y1,y2];simp
 have e2:expI M1++R=expI M2++Q.flatMap (Tr.lay m):=by rw [z2,z1];simp
 rw [hs,e1,hl.cut,e2,hr.cut,hm,List.append_assoc]
def let0 (l:List Tr):Nat:=(l.flatMap (Tr.lay 0)).length
theorem let0_append (a b:List Tr):let0 (a++b)=let0 a+let0 b:=by simp [let0]
theorem let0_flat (m:Nat) (l:List Tr):let0 (l.flatMap (Tr.lay m))=let0 l:=by unfold let0;rw [flat_lay (Nat.zero_le m)]
theorem LOk.let_ {a:Tr} {m:Nat} {L R P:List Tr} {M M1:List It} {d1:EndP} (h:LOk a m L R M d1 M1 P):let0 P≤let0 L:=by
 obtain ⟨Y,h1,_⟩:=h.mv
 rw [h1,let0_append,let0_flat]
 omega
theorem ROk.let_ {b:Tr} {m:Nat} {R Q:List Tr} {M M1:List It} {e1:EndP} (h:ROk b m R M e1 M1 Q):let0 Q≤let0 R:=by
 obtain ⟨Y,h1,_⟩:=h.mv
 rw [h1,let0_append,let0_flat]
 omega
structure SpI (a b:Tr) (s:List Tr) (i n m:Nat) (d e:EndP) (M:List It):Prop where
 ca:Canon a
 cb:Canon b
 ex:∃ L R,EndL a m d L∧EndR b m e R∧seqP s m=L++expI M++R∧let0 L≤i∧let0 R≤n
 sg:Sg M
 one:m%2=1→One M
def LevR (lv:Nat) (d e:EndP) (M:List It) (d' e':EndP) (M':List It):Prop :=
 if lv%2=1 then d'=upT false lv (gRunL lv d e M).1∧e'=upT true lv (gRunR lv (gRunL lv d e M).1 e (gRunL lv d e M).2).1∧M'=mRuns (gRunR lv (gRunL lv d e M).1 e (gRunL lv d e M).2).2
 else if isTie lv=true then ∃ e2 M2,GStr lv e (gPairL lv d e M).2 e2 M2∧d'=upT false lv (gPairL lv d e M).1∧e'=upT true lv e2∧M'=mStrE (M2.foldl mStr1 ([],none))
 else d'=upT false lv (gPairL lv d e M).1∧e'=upT true lv (gPairR lv (gPairL lv d e M).1 e (gPairL lv d e M).2).1∧M'=mPairs lv [] (gPairR lv (gPairL lv d e M).1 e (gPairL lv d e M).2).2
theorem runT_pos {bk:Bool} {lv:Nat} {p:List (Tr×Nat)} (h:∀ q∈p,q.2<(kids q.1).length):1≤(runT bk lv p).1:=by
 unfold runT
 split
 ·simp
 ·rename_i q hq
  obtain ⟨p',rfl,_⟩:=topAt_some hq
  have:=h q (by simp)
  simp only [hvT]
  split <;> omega
theorem Zip.lt {a x:Tr} {p:List (Tr×Nat)} (h:Zip a p x):∀ q∈p,q.2<(kids q.1).length:=by
 induction h with
 |root=>simp
 |down _ hc ih =>
  intro q hq
  rcases List.mem_cons.1 hq with rfl|hq
  ·exact gelt hc
  ·exact ih q hq
theorem gRunL_sg {a:Tr} {m lv:Nat} {d e:EndP} {M:List It} {L:List Tr} (hd:EndL a m d L) (hM:Sg M):Sg (gRunL lv d e M).2:=by
 obtain ⟨p,o⟩:=d
 cases o with
 |none=>exact hM
 |some x =>
  have hd:EdL a m p x L:=hd
  unfold gRunL
  simp only
  split
  ·intro i hi
   rcases List.mem_cons.1 hi with rfl|hi
   ·exact ⟨rfl,runT_pos hd.zip.lt⟩
   ·exact hM i hi
  ·exact hM
theorem gRunR_sg {b:Tr} {m lv:Nat} {d e:EndP} {M:List It} {R:List Tr} (hd:EndR b m e R) (hM:Sg M):Sg (gRunR lv d e M).2:=by
 obtain ⟨p,o⟩:=e
 cases o with
 |none=>exact hM
 |some x =>
  have hd:EdR b m p x R:=hd
  unfold gRunR
  simp only
  split
  ·intro i hi
   rcases List.mem_append.1 hi with hi|hi
   ·exact hM i hi
   ·simp at hi;subst hi;exact ⟨rfl,runT_pos hd.zip.lt⟩
  ·exact hM
theorem gPairL_one {lv:Nat} {d e:EndP} {M:List It} (hM:One M):One (gPairL lv d e M).2:=by
 unfold gPairL
 split
 ·exact hM
 ·split
  ·exact hM
  ·intro i hi
   rcases List.mem_cons.1 hi with rfl|hi
   ·exact ⟨rfl,rfl⟩
   ·exact hM i hi
theorem gPairR_one {lv:Nat} {d e:EndP} {M:List It} (hM:One M):One (gPairR lv d e M).2:=by
 unfold gPairR
 split
 ·exact hM
 ·split
  ·exact hM
  ·intro i hi
   rcases List.mem_append.1 hi with hi|hi
   ·exact hM i hi
   ·simp at hi;subst hi;exact ⟨rfl,rfl⟩
theorem SpI.next {a b:Tr} {s:List Tr} {i n m:Nat} {d e d' e':EndP} {M M':List It} (h:SpI a b s i n m d e M) (hr:LevR (m+1) d e M d' e' M'):SpI a b s i n (m+1) d' e' M':=by
 obtain ⟨L,R,h1,h2,h3,h4,h5⟩:=h.ex
 unfold LevR at hr
 by_cases he:m%2=0
 ·rw [if_pos (by omega)] at hr
  obtain ⟨rfl,rfl,rfl⟩:=hr
  obtain ⟨P,hl⟩:=gRunL_ok he h.ca h1 (head_exp h.sg h2)
  have hsg:=gRunL_sg (lv:=m+1) (e:=e) h1 h.sg
  obtain ⟨Q,hq⟩:=gRunR_ok he h.cb h2 (last_exp (gRunL (m+1) d e M).1 hsg)
  have hsg2:=gRunR_sg (lv:=m+1) (d:=(gRunL (m+1) d e M).1) h2 hsg
  obtain ⟨m1,m2⟩:=mRuns_ok hsg2
  exact ⟨h.ca,h.cb,⟨P,Q,hl.up,hq.up,level_ok h3 hl hq (by rw [m2,step_odd he]),Nat.le_trans hl.let_ h4,Nat.le_trans hq.let_ h5⟩,m1.sg,fun _=>m1⟩
 ·rw [if_neg (by omega)] at hr
  have ho:m%2=1:=by omega
  have hone:=h.one ho
  obtain ⟨P,hl⟩:=gPairL_ok ho h.ca h1 (head_exp h.sg h2)
  have hone1:=gPairL_one (lv:=m+1) (d:=d) (e:=e) hone
  split at hr
  ·rename_i ht
   obtain ⟨e2,M2,hg,rfl,rfl,rfl⟩:=hr
   obtain ⟨⟨Q,hq⟩,hT⟩:=gStr_ok ho ht h.cb h2 hone1 hg
   obtain ⟨m1,m2⟩:=mStrs_ok ht (M:=M2) (s:=([],none)) (fun i hi=>by simp at hi) hT
   exact ⟨h.ca,h.cb,⟨P,Q,hl.up,hq.up,level_ok h3 hl hq (by rw [m2,step_even ho];simp [expI_nil]),Nat.le_trans hl.let_ h4,Nat.le_trans hq.let_ h5⟩,m1,fun h=>by omega⟩
  ·rename_i ht
   obtain ⟨rfl,rfl,rfl⟩:=hr
   obtain ⟨Q,hq⟩:=gPairR_ok ho (by simpa using ht) h.cb h2 (last_exp (gPairL (m+1) d e M).1 hone1.sg)
   have hone2:=gPairR_one (lv:=m+1) (d:=(gPairL (m+1) d e M).1) (e:=e) hone1
   obtain ⟨m1,m2⟩:=mPairs_ok (m+1) (M:=(gPairR (m+1) (gPairL (m+1) d e M).1 e (gPairL (m+1) d e M).2).2) (acc:=[]) (fun i hi=>by simp at hi) hone2
   exact ⟨h.ca,h.cb,⟨P,Q,hl.up,hq.up,level_ok h3 hl hq (by rw [m2,step_even ho];simp [expI_nil]),Nat.le_trans hl.let_ h4,Nat.le_trans hq.let_ h5⟩,m1,fun h=>by omega⟩
theorem SpI.start {a b:Tr} {i j:Nat} {d e:EndP} (ca:Canon a) (cb:Canon b) (hl:EndL a 0 d ((a.lay 0).take i)) (hr:EndR b 0 e ((b.lay 0).drop j)):SpI a b ((a.lay 0).take i++(b.lay 0).drop j) i ((b.lay 0).length-j) 0 d e []:=by
 have flat0:∀ {l:List Tr},Leaves l→l.flatMap (Tr.lay 0)=l:=fun h=>flat_same fun t ht=>by obtain ⟨b,rfl⟩:=h t ht;simp [Tr.lv,Tr.lev]
 refine ⟨ca,cb,⟨_,_,hl,hr,by simp [seqP,expI_nil],?_,?_⟩,fun i hi=>by simp at hi,fun h=>by simp at h⟩
 ·unfold let0
  rw [flat0 fun t ht=>ca.leaves t (List.mem_of_mem_take ht)]
  simp;omega
 ·unfold let0
  rw [flat0 fun t ht=>cb.leaves t (List.mem_of_mem_drop ht)]
  simp
theorem SpI.done {a b T:Tr} {s:List Tr} {i n m k:Nat} {d e:EndP} {nx:Option Tr} (h:SpI a b s i n m d e [⟨T,nx,1⟩]) (hs:Leaves s) (h1:d.2=none) (h2:e.2=none):Canon T∧T.lay 0=s∧T.Upto m:=by
 obtain ⟨L,R,hl,hr,h3,_⟩:=h.ex
 obtain ⟨p,o⟩:=d
 obtain ⟨q,o2⟩:=e
 simp only at h1 h2
 subst h1 h2
 obtain ⟨rfl,rfl⟩:=hl
 obtain ⟨rfl,rfl⟩:=hr
 have:=(h.sg ⟨T,nx,1⟩ (by simp)).1
 simp only at this
 subst this
 exact canon_of hs (by rw [h3];simp [expI_cons,expI_nil,It.exp])
end
section
open Go.RowKit Go.Maps
def EndZ (a:Tr) (d:EndP):Prop:=match d.2 with|some x=>Zip a d.1 x|none=>d.1=[]
theorem EndZ.ofL {a:Tr} {m:Nat} {d:EndP} {L:List Tr} (h:EndL a m d L):EndZ a d:=by
 obtain ⟨p,o⟩:=d
 cases o with
 |none=>exact h.1
 |some x=>exact (show EdL a m p x L from h).zip
theorem EndZ.ofR {a:Tr} {m:Nat} {d:EndP} {R:List Tr} (h:EndR a m d R):EndZ a d:=by
 obtain ⟨p,o⟩:=d
 cases o with
 |none=>exact h.1
 |some x=>exact (show EdR a m p x R from h).zip
theorem Zip.room {a x:Tr} {p:List (Tr×Nat)} (h:Zip a p x) (ga:a.Gd):p.length+x.lv≤a.lv:=by
 induction h with
 |root=>simp
 |@down p t j c h1 hc ih =>
  have:=((h1.gd ga).1.kid (List.mem_of_getElem? hc)).2
  simp only [List.length_cons]
  omega
structure EndIn (X:Px) (bk:Bool) (cs:Array Value) (o:Nat) (pv:Value) (fs:List Fr) (id ky:Nat) (d:EndP):Prop where
 at_:EndAt cs o X.p bk pv id ky
 path:PathOf X.S bk d.1 fs
 sym:match d.2 with|some x=>Den X.S id x∧ky=x.key|none=>id=0∧ky=0
theorem EndIn.ext {X X':Px} {bk:Bool} {cs:Array Value} {o:Nat} {pv:Value} {fs:List Fr} {id ky:Nat} {d:EndP} (h:EndIn X bk cs o pv fs id ky d) (hX:X.S.Ok) (he:X.Ext X'):EndIn X' bk cs o pv fs id ky d:=by
 refine ⟨by rw [he.p];exact h.at_,h.path.le hX he.le,?_⟩
 have:=h.sym
 cases hd:d.2 with
 |none=>rw [hd] at this;exact this
 |some x=>rw [hd] at this;exact ⟨this.1.le hX he.le,this.2⟩
theorem PathOf.last {S:Sto} {bk:Bool} {p:List (Tr×Nat)} {fs:List Fr} {f:Fr} (h:PathOf S bk p (fs++[f])):∃ q p',p=q::p'∧FrOf S bk q f∧PathOf S bk p' fs:=by
 cases p with
 |nil =>
  have:fs++[f]=[]:=h
  simp at this
 |cons q p =>
  obtain ⟨fs',f',h1,h2,h3⟩:=h
  have:=List.append_inj' h1 rfl
  obtain ⟨rfl,h4⟩:=this
  simp at h4
  subst h4
  exact ⟨q,p,rfl,h2,h3⟩
theorem FrOf.hvT {S:Sto} {bk:Bool} {q:Tr×Nat} {f:Fr} (h:FrOf S bk q f):f.hv=hvT bk q:=h.hv
theorem FrOf.whole {S:Sto} (hS:S.Ok) {bk:Bool} {q:Tr×Nat} {f:Fr} (h:FrOf S bk q f):wholeN f.r=(kids q.1).length:=by
 obtain ⟨i,x,h1,h2,h3⟩:=h.rule
 have hd:=h.den
 rw [h1] at hd
 rw [h3]
 exact (kids_rule hS h2 hd.2.2 (by have:=h.lt;omega)).1
theorem FrOf.lv {S:Sto} {bk:Bool} {q:Tr×Nat} {f:Fr} (h:FrOf S bk q f):q.1.lv=f.lev:=lv_of h.lev
theorem FrOf.times {S:Sto} (hS:S.Ok) {bk:Bool} {q:Tr×Nat} {f:Fr} (h:FrOf S bk q f) (ho:f.lev%2=1):f.r.times=(kids q.1).length:=by
 obtain ⟨t,j⟩:=q
 obtain ⟨i,x,h1,h2,h3⟩:=h.rule
 have hd:=h.den
 have hl:=h.lev
 simp only at hd hl
 rw [h1] at hd
 have hlt:=h.lt
 simp only at hlt
 rcases (kids_rule hS h2 hd.2.2 (by omega)).2 with ⟨l,r,u,v,e,rfl,_,_⟩|⟨l,u,k,e,rfl,_,_⟩
 ·obtain ⟨_,b,c,_,_,_,_,_,h4⟩:=lev_pair_inv hl
  omega
 ·rw [h3,e];simp [kids]
theorem FrOf.two {S:Sto} (hS:S.Ok) {bk:Bool} {q:Tr×Nat} {f:Fr} (h:FrOf S bk q f) (he:f.lev%2=0):∃ u v,q.1=.pair u v∧Den S f.r.left u∧Den S f.r.right v:=by
 obtain ⟨t,j⟩:=q
 obtain ⟨i,x,h1,h2,h3⟩:=h.rule
 have hd:=h.den
 have hl:=h.lev
 simp only at hd hl
 rw [h1] at hd
 have hlt:=h.lt
 simp only at hlt
 rcases (kids_rule hS h2 hd.2.2 (by omega)).2 with ⟨l,r,u,v,e,rfl,d1,d2⟩|⟨l,u,k,e,rfl,_,_⟩
 ·rw [h3,e];exact ⟨u,v,rfl,d1,d2⟩
 ·obtain ⟨b,_,h4,h5⟩:=lev_pow_inv hl
  omega
theorem pow2_len:∀ {t:Tr},t.Pow2→1≤t.len
 |.leaf _,_=>Nat.le_refl _
 |.pair l r,h=>by have:=pow2_len h.1;simp only [Tr.len];omega
 |.pow s k,h=>by
  have h1:=pow2_len h.1
  have:=Nat.mul_le_mul h1 h.2
  simp only [Tr.len]
  omega
theorem len_lay0:∀ {t:Tr},t.Gd→(t.lay 0).length=t.len
 |.leaf _,_=>rfl
 |.pair l r,h=>by
  have h1:=h.kid (c:=l) (by simp [kids])
  have h2:=h.kid (c:=r) (by simp [kids])
  rw [lay_high (by omega)]
  simp only [kids,List.flatMap_cons,List.flatMap_nil,List.append_nil,List.length_append,Tr.len]
  rw [len_lay0 h1.1,len_lay0 h2.1]
 |.pow s k,h=>by
  have h2:2≤k:=h.2.2
  have h1:=h.kid (c:=s) (List.mem_replicate.2 ⟨by omega,rfl⟩)
  rw [lay_high (by omega)]
  simp only [kids,Tr.len,List.flatMap_replicate,List.length_flatten,List.map_replicate,List.sum_replicate_nat]
  rw [len_lay0 h1.1,Nat.mul_comm]
end
section
open Go.RowKit Go.Maps
attribute [local go_sem] InGr
def Tr.txt:Tr→List Nat
 |.leaf b=>[b]
 |.pair l r=>l.txt++r.txt
 |.pow s k=>(List.replicate k s.txt).flatten
def Tr.cst:Tr→Nat
 |.leaf _=>1
 |.pair l r=>1+l.cst+r.cst
 |.pow s k=>1+k*s.cst
theorem Tr.txt_len:∀ t:Tr,t.txt.length=t.len
 |.leaf _=>rfl
 |.pair l r=>by simp [Tr.txt,Tr.len,Tr.txt_len l,Tr.txt_len r]
 |.pow s k=>by simp [Tr.txt,Tr.len,Tr.txt_len s,Nat.mul_comm]
def encCp (x:Nat×Nat):List Value:=[.int .i64 x.1,.int .i64 x.2]
theorem encCp_len (x:Nat×Nat):(encCp x).length=2:=rfl
theorem encCp_one (x:Nat×Nat):∀ u∈encCp x,u.oneCell'=true:=by
 intro u hu
 simp [encCp] at hu
 rcases hu with rfl|rfl <;> rfl
theorem encT_one (x:Nat):∀ u∈encT x,u.oneCell'=true:=by
 intro u hu
 simp [encT] at hu
 subst hu
 rfl
def stkT (S:Sto):List (Nat×Nat)→List Nat
 |[]=>[]
 |q::r=>stkT S r++(List.replicate q.2 (S.tr q.1).txt).flatten
def stkC (S:Sto):List (Nat×Nat)→Nat
 |[]=>0
 |q::r=>stkC S r+q.2*(S.tr q.1).cst
theorem stkT_snoc (S:Sto):∀ (l:List (Nat×Nat)) (q:Nat×Nat),stkT S (l++[q])=(List.replicate q.2 (S.tr q.1).txt).flatten++stkT S l
 |[],q=>by simp [stkT]
 |a::l,q=>by simp [stkT,stkT_snoc S l q]
theorem stkC_snoc (S:Sto):∀ (l:List (Nat×Nat)) (q:Nat×Nat),stkC S (l++[q])=q.2*(S.tr q.1).cst+stkC S l
 |[],q=>by simp [stkC]
 |a::l,q=>by simp [stkC,stkC_snoc S l q];omega
def StkOk (S:Sto) (l:List (Nat×Nat)):Prop:=∀ q∈l,1≤q.1∧q.1≤S.list.length∧1≤q.2∧q.2≤maxT
theorem tr_pos {S:Sto} (hS:S.Ok) {i:Nat} (h1:1≤i) (h2:i≤S.list.length):1≤(S.tr i).len:=by
 obtain ⟨j,rfl⟩:∃ j,i=j+1:=⟨i-1,by omega⟩
 exact pow2_len (tr_len hS j _ (List.getElem?_eq_getElem (by omega))).2
theorem stk_len {S:Sto} (hS:S.Ok):∀ {l:List (Nat×Nat)},StkOk S l→l.length≤(stkT S l).length
 |[],_=>Nat.zero_le _
 |q::r,h=>by
  have h1:=stk_len hS (l:=r) fun x hx=>h x (by simp [hx])
  have h2:=h q (by simp)
  have h3:=tr_pos hS h2.1 h2.2.1
  have h4:((List.replicate q.2 (S.tr q.1).txt).flatten).length=q.2*(S.tr q.1).len:=by simp [Tr.txt_len]
  have h5:1*1≤q.2*(S.tr q.1).len:=Nat.mul_le_mul h2.2.2.1 h3
  simp only [stkT,List.length_append,List.length_cons]
  omega
theorem snoc_cp (l:List (Nat×Nat)):l=[]∨∃ L k,l=L++[k]:=by
 rcases List.eq_nil_or_concat l with h|⟨L,k,h⟩
 ·exact .inl h
 ·exact .inr ⟨L,k,by simpa using h⟩
def popC (l:List (Nat×Nat)) (x k:Nat):List (Nat×Nat):=if k=0 then l else l++[(x,k)]
theorem popC_txt (S:Sto) (l:List (Nat×Nat)) (x k:Nat):stkT S (l++[(x,k+1)])=(S.tr x).txt++stkT S (popC l x k):=by
 unfold popC
 rw [stkT_snoc]
 split
 ·rename_i h;subst h;simp
 ·rw [stkT_snoc,List.replicate_succ];simp
theorem popC_cst (S:Sto) (l:List (Nat×Nat)) (x k:Nat):stkC S (l++[(x,k+1)])=(S.tr x).cst+stkC S (popC l x k):=by
 unfold popC
 rw [stkC_snoc]
 split
 ·rename_i h;subst h;simp
 ·rw [stkC_snoc]
  simp only [Nat.add_mul,Nat.one_mul]
  omega
theorem popC_ok {S:Sto} {l:List (Nat×Nat)} {x k:Nat} (h:StkOk S (l++[(x,k+1)])):StkOk S (popC l x k):=by
 unfold popC
 split
 ·exact fun q hq=>h q (by simp [hq])
 ·rename_i hk
  intro q hq
  rcases List.mem_append.1 hq with hq|hq
  ·exact h q (by simp [hq])
  ·have:=h (x,k+1) (by simp)
   simp at hq
   subst hq
   simp only at this ⊢
   omega
theorem AtSlice.litJ {t e:TypeId} {n:Nat} {ps:Array (Nat×Operand)} {ops:Array Oper} {Q:Exit→Act→World→Prop} {rest:List Oper} {a:Act} {w w0:World} {M:List Nat} {L:List As} {o1:Oper} (H:St w0 M L w) (hw:Region.wanted o1 (yielded ops a.tmps)=true) (ho:o1.op=.buildSlice t n ps) (hte:sliceO t=some e) {z:Value} {k bytes:Nat} {cs:Array Value} (hi:infoO e=some (z,k,bytes)) (hn:¬ n*k > 2 ^ 24) (hn0:¬ n*k=0)
  (hf:Instr.fill (fun i=>some (i*k,k)) ((Array.range (n*k)).map (z.cells[·%z.cells.size]!)) (ps.map fun (i,x)=>(i,a.eval x)).toList=some cs)
  (h:∀ b w',St w0 M (blk b (.cells cs e)::L) w'→wpList Tryz.prog ops Q rest (a.put o1.dst (.slice (some ⟨b,0,none⟩) n n)) w'):AtSlice Tryz.prog ops Q o1 t n ps rest a w :=
 wpList_step fun _ hK=>by
  rw [if_pos hw]
  obtain ⟨i,h2,h3,h4,h5⟩:=infoO_ok hi
  have hr:=run_buildSlice (P:=Tryz.prog) w t e n (ps.map fun (i,x)=>(i,a.eval x)) cs i z (sliceO_ok hte) h2 h3 (by rw [h4];exact hn) (by rw [h4];exact hn0) (by rw [h4];exact hf)
  unfold Oper.wp execOp
  simp only [ho,Sem.run_bind,hr,Result.andThen_ok,Sem.run_pure]
  exact hK _ _ (h _ _ (H.alloc _))
def SpelRel (S:Sto) (N:List Nat) (w:World) (bt:Nat) (full:List Nat) (n:Nat) (v:Value) (wr:World):Prop :=
 ∃ (st:List (Nat×Nat)) (txt:List Nat) (v1:Value),n=stkC S st∧(StkOk S st∧txt++stkT S st=full)∧St w N [rowsA encCp 234 2 v st,blk bt (.cells #[v1] 42),rowsA encT 5 1 v1 txt] wr
attribute [local go_sem] StStep stAt stUpon in
theorem spell_c {p m bt id:Nat} {lv v:Value} {S:Sto} {txt:List Nat} (hS:S.Ok) (h1:1≤id) (h2:id≤S.list.length) (hl:txt.length+(S.tr id).txt.length≤1048576) (w:World) (h:((blk bt (.cells #[v] 42)).sep (rowsA encT 5 1 v txt)).ho w) (hs:((((blk bt (.cells #[v] 42)).sep (rowsA encT 5 1 v txt))).sep (stoA p lv m S)).ho w) :
  Calls Tryz.prog 112 #[.pointer (some ⟨p,0,none⟩),.int .i64 (id:Nat),.pointer (some ⟨bt,0,none⟩)] w fun e w'=>∃ v':Value,e=.returned .nilIface∧St w ((blk bt (.cells #[v] 42)).sep (rowsA encT 5 1 v txt)).fp [blk bt (.cells #[v'] 42),rowsA encT 5 1 v' (txt++(S.tr id).txt)] w':=by
 have H:=(St.one h).sep
 rw [sep_ho] at hs
 have HK:Ks w ((blk bt (.cells #[v] 42)).sep (rowsA encT 5 1 v txt)).fp [stoA p lv m S]:=⟨by simpa using hs.2.1,by simpa using fun b hb hm=>hs.2.2 b hm hb⟩
 generalize ((blk bt (.cells #[v] 42)).sep (rowsA encT 5 1 v txt)).fp=N at H HK ⊢
 obtain ⟨full,hfull⟩:∃ l,txt++(S.tr id).txt=l:=⟨_,rfl⟩
 have hfl:full.length≤1048576:=by rw [← hfull,List.length_append];exact hl
 rw [hfull]
 have HIN:Hid (S.Ok∧1≤id∧id≤S.list.length∧txt++(S.tr id).txt=full):=Lib.hid ⟨hS,h1,h2,hfull⟩
 clear hS h1 h2 hl h hs hfull
 go_enter Tryz.func112,Tryz.ntmps112
 go_wp2_with (first|refine sL ?_|(refine sS ?_;clear H;intros;rename_i H)|((with_reducible refine isSlice ?_);refine AtSlice.one H rfl rfl rfl rfl rfl rfl rfl rfl rfl ?_;clear H;intro b9 _ H;simp only [Act.put,puA,puB,puC]))
 replace H:=H.conv (A':=rowsA encCp 234 2 (.slice (some ⟨b9,0,none⟩) 1 1) [(id,1)]) (by rw [rowsA_fp',blk_fp];rfl) fun hb=>rowsA_of_blk (xs:=[(id,1)]) (by rw [blk_ho] at hb;exact hb) (by simp [maxLen]) (by simp [flatG,encCp]) encCp_len
 go_loopg [7] (stkC S [(id,1)]) (fun n v7 wr=>SpelRel S N w bt full n v7 wr)
 case atStart=>exact ⟨[(id,1)],txt,v,rfl,⟨by intro q hq;simp at hq;subst hq;have:=HIN.out;simp only;unfold maxT;omega,by rw [← HIN.out.2.2.2];simp [stkT]⟩,H⟩
 case round =>
  clear H
  obtain ⟨st,txt1,v1,rfl,hrel,H⟩:=hrel
  obtain ⟨ad2,c2,rfl,_⟩:=rowsA_shape (H.get (A:=rowsA encCp 234 2 _ st) pk)
  have hsb:st.length≤1048576:=by
   have e1:=stk_len HIN.out.1 hrel.1
   have e2:=congrArg List.length hrel.2
   rw [List.length_append] at e2
   omega
  rcases snoc_cp st with h0|⟨st0,⟨x,kk⟩,h0⟩
  ·subst h0
   have hfe:txt1=full:=by simpa [stkT] using hrel.2
   subst hfe
   clear hrel
   simp only [List.length_nil] at H ⊢
   go_wp2_with (first|refine sL ?_|(refine sS ?_;clear H;intros;rename_i H))
   go_ret
   exact ⟨v1,rfl,H.picks (.cons (A:=blk bt (.cells #[v1] 42)) pk (.cons (A:=rowsA encT 5 1 v1 txt1) pk .nil))⟩
  ·subst h0
   have hq:=hrel.1 (x,kk) (by simp)
   simp only at hq
   obtain ⟨k,rfl⟩:∃ k,kk=k+1:=⟨kk-1,by omega⟩
   have HR:Hid (StkOk S (popC st0 x k)∧txt1++((S.tr x).txt++stkT S (popC st0 x k))=full∧stkC S (st0++[(x,k+1)])=(S.tr x).cst+stkC S (popC st0 x k)):=Lib.hid ⟨popC_ok hrel.1,by rw [← popC_txt];exact hrel.2,popC_cst S st0 x k⟩
   obtain ⟨k1,hk1⟩:∃ n,st0.length=n:=⟨_,rfl⟩
   obtain ⟨n2,hn2⟩:∃ n,k1+1=n:=⟨_,rfl⟩
   have hl2:(st0++[(x,k+1)]).length=n2:=by simp [hk1];omega
   rw [hl2] at H hsb ⊢
   obtain ⟨g,c9,e9,hc9,hm9⟩:=rowsA_cases (H.get (A:=rowsA encCp 234 2 (.slice ad2 n2 c2) (st0++[(x,k+1)])) pk) (by simp)
   injection e9 with e9 e10 e11
   subst e11
   clear e10
   subst e9
   rw [hl2] at hc9
   unfold maxLen at hm9
   have d0:decide ((0:Int)<(n2:Int))=true:=by simp;omega
   have d0n:decide (0<n2)=true:=by simp;omega
   have i5:k1≤c2:=by omega
   have hki:(st0++[(x,k+1)])[k1]?=some (x,k+1):=by rw [← hk1];simp
   have HO0:Hid (∀ w,(rowsA encCp 234 2 (.slice (some ⟨g,0,none⟩) n2 c2) (st0++[(x,k+1)])).ho w→w.cell? ⟨g,k1*2,none⟩=some (.int .i64 (x:Nat))):=Lib.hid fun w h=>rowsA_cell h encCp_len hki (j:=0) rfl
   have HO1:Hid (∀ w,(rowsA encCp 234 2 (.slice (some ⟨g,0,none⟩) n2 c2) (st0++[(x,k+1)])).ho w→w.cell? ⟨g,k1*2+1,none⟩=some (.int .i64 ((k:Int)+1))):=Lib.hid fun w h=>rowsA_cell h encCp_len hki (j:=1) rfl
   have hset:(st0++[(x,k+1)]).set k1 (x,k)=st0++[(x,k)]:=by rw [← hk1];simp
   have hkj:(st0++[(x,k)])[k1]?=some (x,k):=by rw [← hk1];simp
   have HP2:Hid (Hid (∀ w,(rowsA encCp 234 2 (.slice (some ⟨g,0,none⟩) n2 c2) (st0++[(x,k)])).ho w→w.cell? ⟨g,k1*2+1,none⟩=some (.int .i64 (k:Nat)))):=Lib.hid (Lib.hid fun w h=>rowsA_cell h encCp_len hkj (j:=1) rfl)
   have HKI:=Lib.hid hki
   have HSET:=Lib.hid hset
   have HLN:=Lib.hid (And.intro hk1 hn2)
   have i8:(n2:Int)-1=(k1:Int):=by omega
   have i7:k1<n2:=by omega
   have hkb:k≤1152921504606846976:=by unfold maxT at hq;omega
   have HX:=Lib.hid hq
   obtain ⟨j,hxj⟩:∃ j,j+1=x:=⟨x-1,by omega⟩
   obtain ⟨en,hen⟩:∃ a,S.list[j]?=some a:=⟨_,List.getElem?_eq_getElem (by omega)⟩
   have HEN:=Lib.hid (rule_of HIN.out.1 hen)
   have HRU:Hid (∀ w,(stoA p lv m S).ho w→Calls Tryz.prog 68 #[.pointer (some ⟨p,0,none⟩),.int .i64 (x:Nat)] w fun e w'=>e=.returned (.tuple #[.agg (ruleL en.r).toArray,.nilIface])∧St w [] [] w'):=Lib.hid fun w h=>rule_c hen (x:Int) (by omega) w h
   have HXJ:=Lib.hid hxj
   clear hrel hki hset hkj hl2 hk1 hn2 hq hen hxj
   go_wp2_with (first|refine sL ?_|(refine sS ?_;clear H;intros;rename_i H)|((with_reducible refine isStore ?_);refine AtStore.rowAk (enc:=encCp) H rfl rfl rfl rfl rfl rfl (xs:=st0++[(x,k+1)]) pk encCp_len HKI.out (j:=1) (by decide) rfl (x,k) rfl ?_;clear H HO0 HO1;intro _ H;rw [HSET.out] at H;have HO2:=HP2.out;simp only [Act.put,puA,puB,puC]))
   focus
    have hk0:((k:Int)==0)=true:=by assumption
    have hk1:k=0:=by simpa using hk0
    have hp:popC st0 x k=st0:=by simp [popC,hk1]
    rw [← HLN.out.2] at H
    replace H:=(H.pick (A:=rowsA encCp 234 2 (.slice (some ⟨g,0,none⟩) (k1+1) c2) (st0++[(x,k)])) pk).cut encCp_len HLN.out.1
    rw [← hp] at H
    have HLE:Hid ((popC st0 x k).length=k1):=Lib.hid (by rw [hp];exact HLN.out.1)
    clear hk0 hk1 hp
    generalize k1=nn at *
   rotate_left
   focus
    have hk0:((k:Int)==0)=false:=by assumption
    have hk1:¬ k=0:=by simpa using hk0
    have hp:popC st0 x k=st0++[(x,k)]:=by simp [popC,hk1]
    rw [← hp] at H
    have HLE:Hid ((popC st0 x k).length=n2):=Lib.hid (by rw [hp];have:=HLN.out;simp;omega)
    clear hk0 hk1 hp
    generalize n2=nn at *
   all_goals
    have hb5:txt1.length≤1048575∧(popC st0 x k).length≤1048576:=by
     have h1:=HR.out
     have h2:=congrArg List.length h1.2.1
     have h3:=stk_len HIN.out.1 h1.1
     have h4:=tr_pos HIN.out.1 HX.out.1 HX.out.2.1
     rw [List.length_append,List.length_append,Tr.txt_len] at h2
     omega
    obtain ⟨hb6,hb7⟩:=hb5
    have HEN2:=HEN.out
    rcases HEN2 with ⟨b,hb9,hr,hw,ht⟩|⟨l,r,y,z,hl9,hr9,hy,hz,hr,hw,hs9,ht⟩|⟨l,t,y,hl9,hy,ht2,hr,hw,hs9,ht⟩
    ·have hlit:(ruleL en.r).toArray=#[.int .i64 1,.int .u8 (b:Nat),.int .i64 0,.int .i64 0,.int .i64 0]:=by rw [hr];rfl
     rw [hlit] at HRU
     rw [HXJ.out] at ht
     have HT:=Lib.hid ht
     clear hlit hr hw ht hb9
     go_wp2_with (first|refine sL ?_|(refine sS ?_;clear H;intros;rename_i H)|(go_at_call 68;with_reducible refine Calls.mono (HRU.out _ (H.known HK pk)) ?_;rintro e9 wc ⟨rfl,hb⟩;replace H:=H.grew hb.below;clear hb))
     rename_i br _ _
     replace H:St w N [rowsA encT 5 1 v1 txt1,blk bt (.cells #[v1] 42),blk br (.cells #[.int .i64 1,.int .u8 (b:Nat),.int .i64 0,.int .i64 0,.int .i64 0] 131),rowsA encCp 234 2 (.slice (some ⟨g,0,none⟩) nn c2) (popC st0 x k)] _:=H.picks (.cons pk (.cons pk (.cons pk (.cons pk .nil))))
     refine wp_region_sgx 9 [⟨[],fun v _=>v=.pointer (some ⟨bt,0,none⟩)⟩,⟨[],fun v _=>v=.pointer (some ⟨bt,0,none⟩)⟩,⟨[1],fun v _=>v=.pointer (some ⟨bt,0,none⟩)⟩,⟨[2],fun v _=>v=v1⟩,⟨[],fun v _=>v=.pointer (some ⟨br,1,none⟩)⟩,⟨[4],fun v _=>v=.int .u8 (b:Nat)⟩,⟨[5],fun v _=>∃ bn:Nat,v=.slice (some ⟨bn,0,none⟩) 1 1⟩,⟨[3,6],fun _ _=>True⟩,⟨[0],fun v _=>v=.pointer (some ⟨bt,0,none⟩)⟩] [6,7] [[0,1,2],[0,1],[0,1],[0,1],[0],[0],[0],[1],[2]] [fun _ wx=>St w N [rowsA encT 5 1 v1 txt1,blk bt (.cells #[v1] 42),blk br (.cells #[.int .i64 1,.int .u8 (b:Nat),.int .i64 0,.int .i64 0,.int .i64 0] 131),rowsA encCp 234 2 (.slice (some ⟨g,0,none⟩) nn c2) (popC st0 x k)] wx,fun vals wx=>∃ bn:Nat,vals 6=.slice (some ⟨bn,0,none⟩) 1 1∧St w N [rowsA encT 5 1 v1 txt1,rowsA encT 5 1 (.slice (some ⟨bn,0,none⟩) 1 1) [b],blk bt (.cells #[v1] 42),blk br (.cells #[.int .i64 1,.int .u8 (b:Nat),.int .i64 0,.int .i64 0,.int .i64 0] 131),rowsA encCp 234 2 (.slice (some ⟨g,0,none⟩) nn c2) (popC st0 x k)] wx,fun vals wx=>∃ (ad9:Option Addr) (cp9:Nat),vals 7=.slice ad9 (txt1.length+1) cp9∧St w N [rowsA encT 5 1 (.slice ad9 (txt1.length+1) cp9) (txt1++[b]),blk bt (.cells #[v1] 42),blk br (.cells #[.int .i64 1,.int .u8 (b:Nat),.int .i64 0,.int .i64 0,.int .i64 0] 131),rowsA encCp 234 2 (.slice (some ⟨g,0,none⟩) nn c2) (popC st0 x k)] wx]
      [[],[],[(1,66)],[(2,67)],[],[(4,69)],[(5,70)],[(3,68),(6,71)],[(0,65)]] [(0,65),(1,66),(2,67),(3,68),(4,69),(5,70),(6,71),(7,72),(8,73)] (by kernel_rfl) (by kernel_rfl) H.drew ⟨⟨qo,qo,qo,trivial⟩,⟨qo,qo,trivial⟩,⟨qo,qo,trivial⟩,⟨ql,ql,trivial⟩,⟨qo,trivial⟩,⟨ql,trivial⟩,⟨?_,trivial⟩,⟨?_,trivial⟩,⟨qo,trivial⟩,trivial⟩ ?_
     ·intro vals wx hd HC
      simp only [GF] at hd
      have H:=HC
      simp only [CA] at H
      simp only [PS,hd]
      clear HC
      refine StStep.slice1 (enc:=encT) H rfl rfl rfl rfl rfl rfl rfl rfl rfl b rfl encT_len ?_
      intro bn wz H
      exact ⟨⟨bn,rfl⟩,bn,rfl,H.picks (.cons pk (.cons pk (.cons pk (.cons pk (.cons pk .nil)))))⟩
     ·intro vals wx hd HC
      simp only [GF] at hd
      have H:=HC
      simp only [CA] at H
      obtain ⟨bn,hv,H⟩:=H
      simp only [PS,hd,hv]
      refine StStep.append (enc:=encT) rfl rfl rfl rfl rfl (by decide) (by decide) rfl rfl H (H.get (A:=rowsA encT 5 1 (.slice (some ⟨bn,0,none⟩) 1 1) [b]) pk) encT_len encT_one (by simp;omega) ?_
      intro v' wz H
      obtain ⟨ad9,cp9,e9,_⟩:=rowsA_shape (H.get (A:=rowsA encT 5 1 v' (txt1++[b])) pk)
      simp only [List.length_append,List.length_cons,List.length_nil,Nat.zero_add] at e9
      subst e9
      exact ⟨trivial,ad9,cp9,rfl,H.picks (.cons pk (.cons pk (.cons pk (.cons pk .nil))))⟩
     intro vals wx hd HC
     have h6:=hd.2.2.2.2.2.2.1
     simp only [CA] at HC
     obtain ⟨ad9,cp9,hv,H⟩:=HC
     simp only [GF] at hd
     simp only [PS,hd,hv]
     clear hd
     go_wp2_with (first|refine sL ?_|(refine sS ?_;clear H;intros;rename_i H)|((with_reducible refine isAppend ?_);refine AtAppend.go (enc:=encT) H rfl rfl rfl rfl rfl (by decide) (by decide) rfl (xs:=txt1) pk rfl (H.at pk) [b] rfl (by simp [flatG,encT]) encT_len encT_one (by simp;omega) ?_;clear H;intro ad9 cp9 _ H;simp only [Act.put,puA,puB,puC]))
     go_roundg (stkC S (popC st0 x k))
     case measure=>have h1:=HR.out.2.2;rw [HT.out] at h1;simp only [Tr.cst] at h1;omega
     case rel =>
      have h1:=HR.out
      rw [HT.out] at h1
      exact ⟨popC st0 x k,txt1++[b],_,rfl,⟨h1.1,by rw [List.append_assoc];exact h1.2.1⟩,H.picks (.cons (A:=rowsA encCp 234 2 _ (popC st0 x k)) pk (.cons pk (.cons (A:=rowsA encT 5 1 _ (txt1++[b])) pk .nil)))⟩
    ·obtain ⟨l1,hl1⟩:∃ a,l+1=a:=⟨_,rfl⟩
     obtain ⟨r1,hr1⟩:∃ a,r+1=a:=⟨_,rfl⟩
     rw [hl1,hr1] at hr ht
     have hlit:(ruleL en.r).toArray=#[.int .i64 2,.int .u8 0,.int .i64 (l1:Nat),.int .i64 (r1:Nat),.int .i64 0]:=by rw [hr];rfl
     rw [hlit] at HRU
     rw [HXJ.out] at ht
     have HT:=Lib.hid ht
     have HLR:Hid (1≤l1∧l1≤S.list.length∧1≤r1∧r1≤S.list.length):=Lib.hid (by have h1:=HX.out;have h2:=HXJ.out;omega)
     clear hlit hr hw ht hl9 hr9 hy hz hs9 hl1 hr1
     go_wp2_with (first|refine sL ?_|(refine sS ?_;clear H;intros;rename_i H)|(go_at_call 68;with_reducible refine Calls.mono (HRU.out _ (H.known HK pk)) ?_;rintro e9 wc ⟨rfl,hb⟩;replace H:=H.grew hb.below;clear hb)|((with_reducible refine isSlice ?_);refine AtSlice.litJ H rfl rfl rfl (cs:=#[.int .i64 (r1:Nat),.int .i64 1,.int .i64 (l1:Nat),.int .i64 1]) rfl (by decide) (by decide) (by kernel_rfl) ?_;clear H;intro b8 _ H;simp only [Act.put,puA,puB,puC])|((with_reducible refine isAppend ?_);refine AtAppend.go (enc:=encCp) H rfl rfl rfl rfl rfl (by decide) (by decide) rfl (xs:=popC st0 x k) pk rfl (H.at pk) [(r1,1),(l1,1)] rfl (by simp [flatG,encCp]) encCp_len encCp_one (by simp;omega) ?_;clear H;intro ad9 cp9 _ H;simp only [Act.put,puA,puB,puC]))
     go_roundg (stkC S (popC st0 x k++[(r1,1),(l1,1)]))
     case measure =>
      have h1:=HR.out.2.2
      rw [HT.out] at h1
      rw [show popC st0 x k++[(r1,1),(l1,1)]=(popC st0 x k++[(r1,1)])++[(l1,1)] by simp,stkC_snoc,stkC_snoc]
      simp only [Tr.cst,Nat.one_mul] at h1 ⊢
      omega
     case rel =>
      have h1:=HR.out
      have h2:=HLR.out
      rw [HT.out] at h1
      refine ⟨popC st0 x k++[(r1,1),(l1,1)],txt1,v1,rfl,⟨fun q hq=>?_,?_⟩,H.picks (.cons (A:=rowsA encCp 234 2 _ (popC st0 x k++[(r1,1),(l1,1)])) pk (.cons pk (.cons pk .nil)))⟩
      ·rcases List.mem_append.1 hq with hq|hq
       ·exact h1.1 q hq
       ·simp at hq
        unfold maxT
        rcases hq with rfl|rfl <;> simp only <;> omega
      ·rw [show popC st0 x k++[(r1,1),(l1,1)]=(popC st0 x k++[(r1,1)])++[(l1,1)] by simp,stkT_snoc,stkT_snoc]
       have h3:=h1.2.1
       simpa [Tr.txt] using h3
    ·obtain ⟨l1,hl1⟩:∃ a,l+1=a:=⟨_,rfl⟩
     have htb:t≤maxT:=by
      have h1:=tr_len HIN.out.1 l y hy
      have h2:=pow2_len h1.2
      have h3:1*t≤y.w.len*t:=Nat.mul_le_mul_right t (by omega)
      omega
     rw [hl1] at hr ht
     have hlit:(ruleL en.r).toArray=#[.int .i64 3,.int .u8 0,.int .i64 (l1:Nat),.int .i64 0,.int .i64 (t:Nat)]:=by rw [hr];rfl
     rw [hlit] at HRU
     rw [HXJ.out] at ht
     have HT:=Lib.hid ht
     have HLR:Hid (1≤l1∧l1≤S.list.length∧1≤t∧t≤maxT):=Lib.hid (by have h1:=HX.out;have h2:=HXJ.out;omega)
     clear hlit hr hw ht hl9 hy hs9 hl1 htb ht2
     go_wp2_with (first|refine sL ?_|(refine sS ?_;clear H;intros;rename_i H)|(go_at_call 68;with_reducible refine Calls.mono (HRU.out _ (H.known HK pk)) ?_;rintro e9 wc ⟨rfl,hb⟩;replace H:=H.grew hb.below;clear hb)|((with_reducible refine isSlice ?_);refine AtSlice.one H rfl rfl rfl rfl rfl rfl rfl rfl rfl ?_;clear H;intro b8 _ H;simp only [Act.put,puA,puB,puC])|((with_reducible refine isAppend ?_);refine AtAppend.go (enc:=encCp) H rfl rfl rfl rfl rfl (by decide) (by decide) rfl (xs:=popC st0 x k) pk rfl (H.at pk) [(l1,t)] rfl (by simp [flatG,encCp]) encCp_len encCp_one (by simp;omega) ?_;clear H;intro ad9 cp9 _ H;simp only [Act.put,puA,puB,puC]))
     go_roundg (stkC S (popC st0 x k++[(l1,t)]))
     case measure =>
      have h1:=HR.out.2.2
      rw [HT.out] at h1
      rw [stkC_snoc]
      simp only [Tr.cst] at h1 ⊢
      omega
     case rel =>
      have h1:=HR.out
      have h2:=HLR.out
      rw [HT.out] at h1
      refine ⟨popC st0 x k++[(l1,t)],txt1,v1,rfl,⟨fun q hq=>?_,?_⟩,H.picks (.cons (A:=rowsA encCp 234 2 _ (popC st0 x k++[(l1,t)])) pk (.cons pk (.cons pk .nil)))⟩
      ·rcases List.mem_append.1 hq with hq|hq
       ·exact h1.1 q hq
       ·simp at hq
        subst hq
        exact h2
      ·rw [stkT_snoc]
       have h3:=h1.2.1
       simpa [Tr.txt] using h3
end
section
open Go.RowKit Go.Maps
attribute [local go_sem] InGr
theorem ex1_c {p m bt bs id:Nat} {lv v:Value} {S:Sto} {txt:List Nat} (hS:S.Ok) (h1:1≤id) (h2:id≤S.list.length) (hl:txt.length+(S.tr id).txt.length≤1048576) (w:World) (h:((blk bt (.cells #[v] 42)).sep (rowsA encT 5 1 v txt)).ho w) (hs:(((blk bt (.cells #[v] 42)).sep (rowsA encT 5 1 v txt)).sep (stoA p lv m S)).ho w) (hb:(((blk bt (.cells #[v] 42)).sep (rowsA encT 5 1 v txt)).sep (blk bs (.cells #[.pointer (some ⟨p,0,none⟩)] 59))).ho w) :
  Calls Tryz.prog 111 #[.int .i64 (id:Nat),.int .i64 1,.pointer (some ⟨bt,0,none⟩),.pointer (some ⟨bs,0,none⟩)] w fun e w'=>∃ v':Value,e=.returned .nilIface∧St w ((blk bt (.cells #[v] 42)).sep (rowsA encT 5 1 v txt)).fp [blk bt (.cells #[v'] 42),rowsA encT 5 1 v' (txt++(S.tr id).txt)] w':=by
 have H:=(St.one h).sep
 rw [sep_ho] at hs hb
 have HK:Ks w ((blk bt (.cells #[v] 42)).sep (rowsA encT 5 1 v txt)).fp [stoA p lv m S,blk bs (.cells #[.pointer (some ⟨p,0,none⟩)] 59)]:=⟨fun A hA=>by
   simp at hA
   rcases hA with rfl|rfl
   ·exact hs.2.1
   ·exact hb.2.1,fun A hA b hbA hm=>by
   simp at hA
   rcases hA with rfl|rfl
   ·exact hs.2.2 b hm hbA
   ·exact hb.2.2 b hm hbA⟩
 have HSP:Hid (∀ w,((blk bt (.cells #[v] 42)).sep (rowsA encT 5 1 v txt)).ho w→(((blk bt (.cells #[v] 42)).sep (rowsA encT 5 1 v txt)).sep (stoA p lv m S)).ho w→Calls Tryz.prog 112 #[.pointer (some ⟨p,0,none⟩),.int .i64 (id:Nat),.pointer (some ⟨bt,0,none⟩)] w fun e w'=>∃ v':Value,e=.returned .nilIface∧St w ((blk bt (.cells #[v] 42)).sep (rowsA encT 5 1 v txt)).fp [blk bt (.cells #[v'] 42),rowsA encT 5 1 v' (txt++(S.tr id).txt)] w'):=Lib.hid fun w h hs=>spell_c hS h1 h2 hl w h hs
 generalize ((blk bt (.cells #[v] 42)).sep (rowsA encT 5 1 v txt)).fp=N at H HK ⊢
 obtain ⟨tl,htl⟩:∃ k,txt.length=k:=⟨_,rfl⟩
 obtain ⟨ad,c,rfl,hmx⟩:=rowsA_shape (H.get (A:=rowsA encT 5 1 v txt) pk)
 rw [htl] at H hl hmx HSP
 have HL:Hid (txt.length=tl∧tl+(S.tr id).txt.length≤1048576):=Lib.hid ⟨htl,hl⟩
 clear hS h1 h2 hl h hs hb htl
 go_enter Tryz.func111,Tryz.ntmps111
 go_wp2_with (first|refine sL ?_|(refine sS ?_;clear H;intros;rename_i H))
 with_reducible refine Calls.mono (HSP.out _ (St.ho (H.pick2 (A:=blk bt (.cells #[.slice ad tl c] 42)) (B:=rowsA encT 5 1 (.slice ad tl c) txt) pk pk).join _ List.mem_cons_self) ((H.pick2 (A:=blk bt (.cells #[.slice ad tl c] 42)) (B:=rowsA encT 5 1 (.slice ad tl c) txt) pk pk).join.sepK HK .here pk)) ?_
 rintro e9 wc ⟨v2,rfl,hb⟩
 replace H:=(H.pick2 (A:=blk bt (.cells #[.slice ad tl c] 42)) (B:=rowsA encT 5 1 (.slice ad tl c) txt) pk pk).join.call hb
 clear hb HSP
 simp only [List.cons_append,List.nil_append] at H
 obtain ⟨ad2,c2,rfl,hmx2⟩:=rowsA_shape (H.get (A:=rowsA encT 5 1 v2 (txt++(S.tr id).txt)) pk)
 obtain ⟨n2,hn2⟩:∃ k,(txt++(S.tr id).txt).length=k:=⟨_,rfl⟩
 rw [hn2] at H hmx2
 have hn3:tl≤n2:=by rw [← hn2,List.length_append,HL.out.1];omega
 clear hn2 hmx
 go_wp2_with (first|refine sL ?_|(refine sS ?_;clear H;intros;rename_i H))
 all_goals
  go_loopg [23] 0 (fun _ v wr=>v=.int .i64 0∧St w N [blk bt (.cells #[.slice ad2 n2 c2] 42),rowsA encT 5 1 (.slice ad2 n2 c2) (txt++(S.tr id).txt)] wr)
  case atStart=>exact ⟨rfl,H⟩
  case round =>
   clear H
   obtain ⟨rfl,H⟩:=hrel
   go_wp2_with (first|refine sL ?_|(refine sS ?_;clear H;intros;rename_i H))
   go_ret
   exact ⟨_,rfl,H⟩
def PtRel (w:World) (N:List Nat) (b9 bt id n:Nat) (v:Value) (txt res:List Nat) (k:Nat) (v11:Value) (wr:World):Prop :=
 (k=1∧v11=.slice (some ⟨b9,0,none⟩) 1 1∧St w N [blk b9 (.cells #[.int .i64 (id:Nat),.int .i64 0,.int .i64 (n:Nat),.int .i64 1] 230),blk bt (.cells #[v] 42),rowsA encT 5 1 v txt] wr)∨(k=0∧v11=.slice (some ⟨b9,0,none⟩) 0 1∧∃ v':Value,St w N [blk bt (.cells #[v'] 42),rowsA encT 5 1 v' res] wr)
theorem parts_c {p m bt bs id n:Nat} {lv v:Value} {S:Sto} {txt res:List Nat} (hS:S.Ok) (hc:(n=0∧res=txt)∨(1≤id∧id≤S.list.length∧n=(S.tr id).len∧res=txt++(S.tr id).txt)) (hnb:n≤65536) (htb:txt.length≤65536) (w:World) (h:((blk bt (.cells #[v] 42)).sep (rowsA encT 5 1 v txt)).ho w) (hs:(((blk bt (.cells #[v] 42)).sep (rowsA encT 5 1 v txt)).sep (stoA p lv m S)).ho w) (hb:(((blk bt (.cells #[v] 42)).sep (rowsA encT 5 1 v txt)).sep (blk bs (.cells #[.pointer (some ⟨p,0,none⟩)] 59))).ho w) :
  Calls Tryz.prog 110 #[.pointer (some ⟨p,0,none⟩),.int .i64 (id:Nat),.int .i64 0,.int .i64 (n:Nat),.func (.func 111) #[] #[.pointer (some ⟨bt,0,none⟩),.pointer (some ⟨bs,0,none⟩)]] w fun e w'=>∃ v':Value,e=.returned .nilIface∧St w ((blk bt (.cells #[v] 42)).sep (rowsA encT 5 1 v txt)).fp [blk bt (.cells #[v'] 42),rowsA encT 5 1 v' res] w':=by
 have H:=(St.one h).sep
 have hs9:=hs
 have hb9:=hb
 rw [sep_ho] at hs hb
 have HK:Ks w ((blk bt (.cells #[v] 42)).sep (rowsA encT 5 1 v txt)).fp [stoA p lv m S,blk bs (.cells #[.pointer (some ⟨p,0,none⟩)] 59)]:=⟨fun A hA=>by
   simp at hA
   rcases hA with rfl|rfl
   ·exact hs.2.1
   ·exact hb.2.1,fun A hA b hbA hm=>by
   simp at hA
   rcases hA with rfl|rfl
   ·exact hs.2.2 b hm hbA
   ·exact hb.2.2 b hm hbA⟩
 have HV:Hid (1≤id→id≤S.list.length→n=(S.tr id).len→res=txt++(S.tr id).txt→∀ w,((blk bt (.cells #[v] 42)).sep (rowsA encT 5 1 v txt)).ho w→(((blk bt (.cells #[v] 42)).sep (rowsA encT 5 1 v txt)).sep (stoA p lv m S)).ho w→(((blk bt (.cells #[v] 42)).sep (rowsA encT 5 1 v txt)).sep (blk bs (.cells #[.pointer (some ⟨p,0,none⟩)] 59))).ho w→Calls Tryz.prog 111 #[.int .i64 (id:Nat),.int .i64 1,.pointer (some ⟨bt,0,none⟩),.pointer (some ⟨bs,0,none⟩)] w fun e w'=>∃ v':Value,e=.returned .nilIface∧St w ((blk bt (.cells #[v] 42)).sep (rowsA encT 5 1 v txt)).fp [blk bt (.cells #[v'] 42),rowsA encT 5 1 v' res] w'):=Lib.hid fun h1 h2 h3 h4 w h hs hb=>by
  have:=ex1_c (v:=v) (txt:=txt) hS h1 h2 (by rw [Tr.txt_len];omega) w h hs hb
  rwa [← h4] at this
 generalize hN:((blk bt (.cells #[v] 42)).sep (rowsA encT 5 1 v txt)).fp=N at H HK ⊢
 have HC:=Lib.hid hc
 have HS:=Lib.hid hS
 clear hS h hs hb hs9 hb9 hc htb
 go_enter Tryz.func110,Tryz.ntmps110
 go_wp2_with (first|refine sL ?_|(refine sS ?_;clear H;intros;rename_i H)|((with_reducible refine isSlice ?_);refine AtSlice.one H rfl rfl rfl rfl rfl rfl rfl rfl rfl ?_;clear H;intro b9 _ H;simp only [Act.put,puA,puB,puC]))
 go_loopg [11] 1 (fun k v11 wr=>PtRel w N b9 bt id n v txt res k v11 wr)
 case atStart=>exact .inl ⟨rfl,rfl,H⟩
 case round =>
  clear H
  rcases hrel with ⟨rfl,rfl,H⟩|⟨rfl,rfl,v2,H⟩
  ·rcases HC.out with ⟨h0,hr⟩|⟨h1,h2,h3,hr⟩
   ·subst h0
    have e0:(((0:Nat):Int)==0)=true:=by simp
    go_wp2_with (first|refine sL ?_|(refine sS ?_;clear H;intros;rename_i H))
    go_roundg 0
    case measure=>omega
    case rel=>exact .inr ⟨rfl,rfl,v,by rw [hr];exact H.picks (.cons (A:=blk bt (.cells #[v] 42)) pk (.cons (A:=rowsA encT 5 1 v txt) pk .nil))⟩
   ·obtain ⟨j,hj⟩:∃ j,id=j+1:=⟨id-1,by omega⟩
    obtain ⟨en,hen⟩:∃ a,S.list[j]?=some a:=⟨_,List.getElem?_eq_getElem (by omega)⟩
    have hln:=tr_len HS.out j en hen
    rw [← hj,← h3] at hln
    have hn1:=pow2_len (t:=S.tr id) (by rw [hj];exact (tr_len HS.out j en hen).2)
    have hW:Hid (∀ w,(stoA p lv m S).ho w→Calls Tryz.prog 40 #[.pointer (some ⟨p,0,none⟩),.int .i64 (id:Nat)] w fun e w'=>e=.returned (.tuple #[.agg #[.int .i64 (n:Nat),.int .i64 en.w.lines,.int .i64 en.w.head,.int .i64 en.w.tail,.int .u64 en.w.val,.int .u64 en.w.scale],.nilIface])∧St w [] [] w'):=Lib.hid fun w h=>by
     have:=weight_c (i:=id) (x:=en) (by rw [hj];exact hen) w h
     rw [hln.1]
     exact this
    have HVV:=Lib.hid (HV.out h1 h2 h3 hr)
    have e0:((n:Int)==0)=false:=by simp;omega
    have HNN:=Lib.hid hN
    clear h1 h2 h3 hr hj hen hln hn1 HV
    go_wp2_with (first|refine sL ?_|(refine sS ?_;clear H;intros;rename_i H)|(go_at_call 40;with_reducible refine Calls.mono (hW.out _ (H.known HK pk)) ?_;rintro e9 wc ⟨rfl,hb⟩;replace H:=H.grew hb.below;clear hb))
    with_reducible refine Calls.mono (HVV.out _ (St.ho (H.pick2 (A:=blk bt (.cells #[v] 42)) (B:=rowsA encT 5 1 v txt) pk pk).join _ List.mem_cons_self) ((H.pick2 (A:=blk bt (.cells #[v] 42)) (B:=rowsA encT 5 1 v txt) pk pk).join.sepK HK .here (B:=stoA p lv m S) pk) ((H.pick2 (A:=blk bt (.cells #[v] 42)) (B:=rowsA encT 5 1 v txt) pk pk).join.sepK HK .here (B:=blk bs (.cells #[.pointer (some ⟨p,0,none⟩)] 59)) pk)) ?_
    rintro e9 wc ⟨v2,rfl,hb⟩
    replace H:=(H.pick2 (A:=blk bt (.cells #[v] 42)) (B:=rowsA encT 5 1 v txt) pk pk).join.call hb
    clear hb HVV
    simp only [List.cons_append,List.nil_append] at H
    go_wp2_with (first|refine sL ?_|(refine sS ?_;clear H;intros;rename_i H))
    go_roundg 0
    case measure=>omega
    case rel=>exact .inr ⟨rfl,rfl,v2,H.picks (.cons (A:=blk bt (.cells #[v2] 42)) pk (.cons (A:=rowsA encT 5 1 v2 res) pk .nil))⟩
  ·go_wp2_with (first|refine sL ?_|(refine sS ?_;clear H;intros;rename_i H))
   go_ret
   exact ⟨v2,rfl,H⟩
section
variable {ops:Array Oper} {Q:Exit→Act→World→Prop} {rest:List Oper} {a:Act} {w w0:World} {M:List Nat} {L R:List As} {o1:Oper} {dst:Option Tmp} {ty0:TypeId} {pos:String} {aft:Array Edge} {gd:Option (Nat×Bool)}
def AtMkRoom (P:Program) (ops:Array Oper) (Q:Exit→Act→World→Prop) (o:Oper) (_:TypeId) (_ _:Operand) (rest:List Oper) (a:Act) (w:World):Prop:=wpList P ops Q (o::rest) a w
theorem isMkRoom {P:Program} {t:TypeId} {x y:Operand} (h:AtMkRoom P ops Q ⟨dst,.makeSlice t x y,ty0,pos,aft,gd⟩ t x y rest a w):wpList P ops Q (⟨dst,.makeSlice t x y,ty0,pos,aft,gd⟩::rest) a w:=h
theorem AtMkRoom.room {α:Type} (enc:α→List Value) {t e:TypeId} {x y:Operand} (H:St w0 M L w) (hw:Region.wanted o1 (yielded ops a.tmps)=true) (ho:o1.op=.makeSlice t x y) (hx:a.eval x=.int .i64 0) (n:Nat) (hy:a.eval y=.int .i64 (n:Int)) (hte:sliceO t=some e) {z:Value} {bytes:Nat} (hi:infoO e=some (z,1,bytes)) (hz:z.cells=#[z]) (hk:∀ x,(enc x).length=1) (hn:n*bytes≤281474976710656) (h63:n≤16777216)
  (h:∀ b w',St w0 M (rowsA enc e 1 (.slice (some ⟨b,0,none⟩) 0 n) []::L) w'→wpList Tryz.prog ops Q rest (a.put o1.dst (.slice (some ⟨b,0,none⟩) 0 n)) w'):AtMkRoom Tryz.prog ops Q o1 t x y rest a w :=
 wpList_step fun _ hK=>by
  rw [if_pos hw]
  obtain ⟨i,h2,h3,h4,h5⟩:=infoO_ok hi
  have hb3:(bytes:Int)*(n:Int)≤281474976710656:=by
   have h9:((n*bytes:Nat):Int)≤281474976710656:=by omega
   rw [Nat.mul_comm] at h9
   rwa [Int.natCast_mul] at h9
  have hr:=run_makeSlice (P:=Tryz.prog) (w:=w) t e i z (sliceO_ok hte) h2 h3 .i64 .i64 0 n (by omega) (by omega) (by rw [h4];simp;omega) (by rw [h5];exact hb3) (by omega)
  rw [hz,h4] at hr
  simp only [Int.toNat_natCast,Nat.mul_one,Int.toNat_zero] at hr
  unfold Oper.wp execOp
  simp only [ho,hx,hy,Sem.run_bind,hr,Result.andThen_ok,Sem.run_pure]
  refine hK _ _ (h _ _ ((H.alloc (.cells (madeCells #[z] n) e)).conv (by rw [rowsA_fp',blk_fp];rfl) fun hb=>?_))
  rw [blk_ho] at hb
  rw [rowsA_ho]
  refine ⟨by simp [flatG],.inr ⟨_,n,madeCells #[z] n,rfl,Nat.zero_le _,hb,by first|(simp [size_madeCells];done)|(simp only [List.length_nil];omega)|exact Nat.zero_le _,by unfold maxLen;omega,by first|(rw [size_madeCells,Nat.mul_one];done)|(rw [size_madeCells];done)|(simp [size_madeCells];done),by simp [flatG]⟩⟩
end
theorem extract_c {p m id n:Nat} {lv:Value} {S:Sto} {res:List Nat} (hS:S.Ok) (hc:(id=0∧n=0∧res=[])∨(1≤id∧id≤S.list.length∧n=(S.tr id).len∧res=(S.tr id).txt)) (hnb:n≤65536) (w:World) (hs:(stoA p lv m S).ho w) :
  Calls Tryz.prog 78 #[.pointer (some ⟨p,0,none⟩),.int .i64 (id:Nat),.int .i64 0,.int .i64 (n:Nat)] w fun e w'=>∃ v':Value,e=.returned (.tuple #[v',.nilIface])∧St w [] [rowsA encT 5 1 v' res] w':=by
 have H:=St.nil w []
 have HK:=Ks.one hs
 obtain ⟨en,hen,hln⟩:∃ en,enAt S id=some en∧en.w.len=n:=by
  rcases hc with ⟨rfl,rfl,_⟩|⟨h1,h2,h3,_⟩
  ·exact ⟨_,rfl,rfl⟩
  ·obtain ⟨j,rfl⟩:∃ j,id=j+1:=⟨id-1,by omega⟩
   obtain ⟨en,hen⟩:∃ a,S.list[j]?=some a:=⟨_,List.getElem?_eq_getElem (by omega)⟩
   exact ⟨en,hen,by rw [h3,(tr_len hS j en hen).1]⟩
 have hW:Hid (∀ w,(stoA p lv m S).ho w→Calls Tryz.prog 40 #[.pointer (some ⟨p,0,none⟩),.int .i64 (id:Nat)] w fun e w'=>e=.returned (.tuple #[.agg #[.int .i64 (n:Nat),.int .i64 en.w.lines,.int .i64 en.w.head,.int .i64 en.w.tail,.int .u64 en.w.val,.int .u64 en.w.scale],.nilIface])∧St w [] [] w'):=Lib.hid fun w h=>by
  have:=weight_c hen w h
  rw [← hln]
  exact this
 have HR:Hid (∀ w,Calls Tryz.prog 89 #[.int .i64 0,.int .i64 (n:Nat),.int .i64 (n:Nat)] w fun e w'=>e=.returned .nilIface∧w'=w):=Lib.hid fun w=>range_c 0 n n w (by omega) true (by simp)
 have HP:Hid (∀ (bt bs:Nat) (v:Value) w,((blk bt (.cells #[v] 42)).sep (rowsA encT 5 1 v ([]:List Nat))).ho w→(((blk bt (.cells #[v] 42)).sep (rowsA encT 5 1 v ([]:List Nat))).sep (stoA p lv m S)).ho w→(((blk bt (.cells #[v] 42)).sep (rowsA encT 5 1 v ([]:List Nat))).sep (blk bs (.cells #[.pointer (some ⟨p,0,none⟩)] 59))).ho w→Calls Tryz.prog 110 #[.pointer (some ⟨p,0,none⟩),.int .i64 (id:Nat),.int .i64 0,.int .i64 (n:Nat),.func (.func 111) #[] #[.pointer (some ⟨bt,0,none⟩),.pointer (some ⟨bs,0,none⟩)]] w fun e w'=>∃ v':Value,e=.returned .nilIface∧St w ((blk bt (.cells #[v] 42)).sep (rowsA encT 5 1 v ([]:List Nat))).fp [blk bt (.cells #[v'] 42),rowsA encT 5 1 v' res] w'):=Lib.hid fun bt bs v w h hs hb=>parts_c hS (by
  rcases hc with ⟨_,h2,h3⟩|⟨h1,h2,h3,h4⟩
  ·exact .inl ⟨h2,h3⟩
  ·exact .inr ⟨h1,h2,h3,by simpa using h4⟩) hnb (by simp) w h hs hb
 have hmf:∀ (fn:Fn) (first cap:Array Value) (w:World),(Instr.makeFunc fn first cap).run Tryz.prog w=.ok (.func fn first cap) w:=fun _ _ _ _=>rfl
 have d1:decide ((65536:Int)<(n:Int))=false:=by simp;omega
 have d1n:decide (65536<n)=false:=by simp;omega
 clear hS hc hen hln hs
 go_enter Tryz.func78,Tryz.ntmps78
 go_wp2_with (first|refine sL ?_|(refine sS ?_;clear H;intros;rename_i H)|(go_at_call 40;with_reducible refine Calls.mono (hW.out _ (H.known HK pk)) ?_;rintro e9 wc ⟨rfl,hb⟩;replace H:=H.grew hb.below;clear hb)|(go_at_call 89;with_reducible refine same (HR.out _) ?_)|((with_reducible refine isMkRoom ?_);refine AtMkRoom.room encT H rfl rfl rfl n rfl rfl rfl rfl encT_len (by omega) (by omega) ?_;clear H;intro b5 _ H;simp only [Act.put,puA,puB,puC]))
 rename_i bs _ _ _ _ _ bt _ _ _ _ _ _
 have HQ:=Lib.hid (HP.out bt bs (.slice (some ⟨b5,0,none⟩) 0 n))
 with_reducible refine Calls.mono (HQ.out _ (St.ho (H.pick2 (A:=blk _ (.cells #[.slice (some ⟨b5,0,none⟩) 0 n] 42)) (B:=rowsA encT 5 1 (.slice (some ⟨b5,0,none⟩) 0 n) []) pk pk).join _ List.mem_cons_self) ((H.pick2 (A:=blk _ (.cells #[.slice (some ⟨b5,0,none⟩) 0 n] 42)) (B:=rowsA encT 5 1 (.slice (some ⟨b5,0,none⟩) 0 n) []) pk pk).join.sepK HK .here (B:=stoA p lv m S) pk) (St.sepO (H.pick2 (A:=blk _ (.cells #[.slice (some ⟨b5,0,none⟩) 0 n] 42)) (B:=rowsA encT 5 1 (.slice (some ⟨b5,0,none⟩) 0 n) []) pk pk).join .here (B:=blk bs (.cells #[.pointer (some ⟨p,0,none⟩)] 59)) pk)) ?_
 rintro e9 wc ⟨v2,rfl,hb⟩
 replace H:=(H.pick2 (A:=blk _ (.cells #[.slice (some ⟨b5,0,none⟩) 0 n] 42)) (B:=rowsA encT 5 1 (.slice (some ⟨b5,0,none⟩) 0 n) []) pk pk).join.call hb
 clear hb HQ
 simp only [List.cons_append,List.nil_append] at H
 go_wp2_with (first|refine sL ?_|(refine sS ?_;clear H;intros;rename_i H))
 go_ret2
 exact ⟨v2,rfl,H.picks (.cons (A:=rowsA encT 5 1 v2 res) pk .nil)⟩
end
section
open Go.RowKit Go.Maps
attribute [local go_sem] InGr
end
section
open Go.RowKit Go.Maps
attribute [local go_sem] InGr
theorem St.join3 {w0 w:World} {M:List Nat} {R:List As} {A B C:As} (h:St w0 M (A::B::C::R) w):St w0 M (A.sep (B.sep C)::R) w:=by
 have h1:=(h.pick2 (A:=B) (B:=C) (.there .here) (.there .here)).join
 exact (h1.pick (.there .here)).join
end
section

end
section
open Go.RowKit Go.Maps Go.Lib
attribute [local go_sem] InGr
structure ItR where
 id:Nat
 nx:Nat
 ky:Nat
 n:Nat
def ItR.cells (i:ItR):List Value:=[.int .i64 i.id,.int .i64 i.nx,.int .u64 i.ky,.int .i64 i.n]
theorem flatG_one {α:Type} {enc:α→List Value} (h1:∀ x,∀ u∈enc x,u.oneCell'=true) (xs:List α):∀ u∈flatG enc xs,u.oneCell'=true:=fun u hu=>by
 obtain ⟨y,_,hy⟩:=List.mem_flatMap.1 hu
 exact h1 y u hy
section
variable {ops:Array Oper} {Q:Exit→Act→World→Prop} {rest:List Oper} {a:Act} {w w0:World} {M:List Nat} {L R:List As} {o1:Oper} {dst:Option Tmp} {ty0:TypeId} {pos:String} {aft:Array Edge} {gd:Option (Nat×Bool)}
theorem run_copyk {P:Program} {w:World} {dT sT ty elem:TypeId} {k g o dLen dCap:Nat} {a:Addr} {sLen sCap:Nat} {cur:Array Value} {t:TypeId} {cs:List Value}
  (hu:P.underlying dT=some (.slice elem)) (hs:(P.info? elem).map (·.size)=some k)
  (hg:w.heap[g]?=some (.cells cur t (0,0))) (hn:cs.length=Nat.min sLen dLen*k)
  (hsrc:∀ j v,cs[j]?=some v→w.cell? (a.add j)=some v) (hfit:o+cs.length≤cur.size) (h1:∀ v∈cs,v.oneCell'=true) :
  (Builtin.copy_ #[dT,sT] ty #[.slice (some ⟨g,o,none⟩) dLen dCap,.slice (some a) sLen sCap]).run P w =
   .ok (goInt (Nat.min sLen dLen)) (w.setRow g (putC cur o cs)):=by
 have hl:=run_loadCells_list (P:=P) w a cs hsrc
 have hst:=run_storeCells_at P g o t cs 0 cur w hg (by simpa using hfit) h1
 cases hq:P.info? elem with
 |none=>simp [hq] at hs
 |some i =>
  have hi:i.size=k:=by simpa [hq] using hs
  simp [Builtin.copy_,run_underlying hu,Builtin.lenOf,Builtin.firstCells,sizeOf,typeInfo,hq,hi,← hn,hl,hst,putC]
def AtCopy (P:Program) (ops:Array Oper) (Q:Exit→Act→World→Prop) (o:Oper) (_:TypeId) (_ _:Operand) (rest:List Oper) (a:Act) (w:World):Prop:=wpList P ops Q (o::rest) a w
theorem info_size {e:TypeId} {z:Value} {k bytes:Nat} (hi:infoO e=some (z,k,bytes)):(Tryz.prog.info? e).map (·.size)=some k:=by
 obtain ⟨i,h2,h3,h4,h5⟩:=infoO_ok hi
 rw [h2];simp [h4]
theorem AtCopy.go {t e:TypeId} {x y:Operand} (H:St w0 M L w) (hw:Region.wanted o1 (yielded ops a.tmps)=true) (ho:o1.op=.call ⟨.builtin .copy,#[x,y],#[t,t]⟩) (hte:sliceO t=some e) {z:Value} {k bytes:Nat} (hi:infoO e=some (z,k,bytes))
  {g o dl dc:Nat} (hx:evalO a x=some (.slice (some ⟨g,o,none⟩) dl dc)) {s so sl sc:Nat} (hy:evalO a y=some (.slice (some ⟨s,so,none⟩) sl sc)) {cur:Array Value} {tt:TypeId} (hp:Pick L (blk g (.cells cur tt)) R) {cs:List Value} (hn:cs.length=Nat.min sl dl*k) (hsrc:w.rangeAt s so cs) (hfit:o+cs.length≤cur.size) (h1:∀ u∈cs,u.oneCell'=true)
  (h:∀ w',St w0 M (blk g (.cells (putC cur o cs) tt)::R) w'→wpList Tryz.prog ops Q rest (a.put o1.dst (goInt (Nat.min sl dl))) w'):AtCopy Tryz.prog ops Q o1 t x y rest a w :=
 wpList_step fun _ hK=>by
  rw [if_pos hw]
  have H':=H.pick hp
  have hg:w.heap[g]?=some (.cells cur tt):=H'.at Pick.here
  have hr:=run_copyk (P:=Tryz.prog) (ty:=o1.type) (dT:=t) (sT:=t) (dCap:=dc) (sCap:=sc) (a:=⟨s,so,none⟩) (sliceO_ok hte) (info_size hi) hg hn (fun j u hj=>by rw [Addr.add_mid];exact hsrc j u hj) hfit h1
  unfold Oper.wp execOp
  simp only [ho,resolve,invoke,builtin,Sem.run_bind,Sem.run_pure,Result.andThen_ok,List.map_toArray,List.map_cons,List.map_nil,evalO_eq hx,evalO_eq hy,hr]
  exact hK _ _ (h _ (H'.setRow Upd.here))
theorem StStep.copy {Rr:Value→World→Prop} {t e:TypeId} {x y:Operand} {o1:Oper} {g:Nat} {cur:Array Value} {tt:TypeId} (H:St w0 M (blk g (.cells cur tt)::L) w) (hw:Region.wanted o1 (yielded ops a.tmps)=true) (ho:o1.op=.call ⟨.builtin .copy,#[x,y],#[t,t]⟩) (hte:sliceO t=some e) {z:Value} {k bytes:Nat} (hi:infoO e=some (z,k,bytes))
  {o dl dc:Nat} (hx:evalO a x=some (.slice (some ⟨g,o,none⟩) dl dc)) {s so sl sc:Nat} (hy:evalO a y=some (.slice (some ⟨s,so,none⟩) sl sc)) {cs:List Value} (hn:cs.length=Nat.min sl dl*k) (hsrc:w.rangeAt s so cs) (hfit:o+cs.length≤cur.size) (h1:∀ u∈cs,u.oneCell'=true)
  (h:∀ w',St w0 M (blk g (.cells (putC cur o cs) tt)::L) w'→Rr (goInt (Nat.min sl dl)) w'):StStep Tryz.prog ops o1 a w Rr:=by
 have hg:w.heap[g]?=some (.cells cur tt):=H.at Pick.here
 have hr:=run_copyk (P:=Tryz.prog) (ty:=o1.type) (dT:=t) (sT:=t) (dCap:=dc) (sCap:=sc) (a:=⟨s,so,none⟩) (sliceO_ok hte) (info_size hi) hg hn (fun j u hj=>by rw [Addr.add_mid];exact hsrc j u hj) hfit h1
 exact StStep.val hw (by unfold execOp;simp only [ho,resolve,invoke,builtin,Sem.run_bind,Sem.run_pure,Result.andThen_ok,List.map_toArray,List.map_cons,List.map_nil,evalO_eq hx,evalO_eq hy,hr]) (h _ (H.setRow Upd.here))
theorem run_append_fresh {P:Program} {w:World} {t tn ty e:TypeId} {i:TypeInfo} {z:Value} (ht:P.underlying t=some (.slice e)) (htn:P.underlying tn=some (.int .i64)) (hi:P.info? e=some i) (hz:i.zero=some z) (hsz:0<i.size) (hb1:0<i.bytes) {g cap m:Nat} (hm:cap<m) (hbytes:m*i.bytes≤140737488355328) :
  (Builtin.append_ #[t,tn] ty #[.slice (some ⟨g,0,none⟩) 0 cap,.int .i64 m]).run P w=.ok (.slice (some ⟨w.heap.size,0,none⟩) m (grownCap w m cap e)) (w.drew.alloc (.cells (Builtin.zeroCells z.cells m++Builtin.zeroCells z.cells (grownCap w m cap e-m)) e)):=by
 have h47:m≤140737488355328:=Nat.le_trans (Nat.le_mul_of_pos_right _ hb1) hbytes
 have hm0':m≠0:=by omega
 have hw:IntKind.i64.wrap (m:Int)=m:=by rw [IntKind.wrap_i64];omega
 have h48i:¬ (281474976710656<(m:Int)*(i.bytes:Int)):=by rw [← Int.natCast_mul];omega
 have hneg:¬ ((m:Int)<0):=by omega
 have hns:¬ (m*i.size=0):=Nat.mul_ne_zero (by omega) (by omega)
 have hs0':i.size≠0:=by omega
 have h63':¬ (9223372036854775807<(m:Int)):=by omega
 have hfit:=growslice_fits (need:=m) (old:=cap) (bytes:=i.bytes) (by omega) hbytes
 have h48':¬ (281474976710656<Builtin.nextslicecap m cap*i.bytes):=by omega
 have hroom:¬ m≤cap:=by omega
 have hfo:=run_firstCells_some (P:=P) w.drew i.size 0 ⟨g,0,none⟩ 0 cap [] (by simp) (by simp)
 simp [Builtin.append_,run_underlying ht,run_underlying htn,sizeOf,typeInfo,zeroValue,hi,hz,asInt,asIntOf,hw,hneg,h48i,hns,hm0',hs0',hroom,h63',h48',Question.forced,hfo,newRow,grownCap]
def AtAppZ (P:Program) (ops:Array Oper) (Q:Exit→Act→World→Prop) (o:Oper) (_:TypeId) (_ _:Operand) (rest:List Oper) (a:Act) (w:World):Prop:=wpList P ops Q (o::rest) a w
theorem AtAppZ.fresh {t tn e:TypeId} {x y:Operand} (H:St w0 M L w) (hw:Region.wanted o1 (yielded ops a.tmps)=true) (ho:o1.op=.call ⟨.builtin .append,#[x,y],#[t,tn]⟩) (htn:Tryz.prog.underlying tn=some (.int .i64)) (hte:sliceO t=some e) {z:Value} {k bytes:Nat} (hi:infoO e=some (z,k,bytes)) (hz:z.cells.size=k) (hk0:0<k) (hb0:0<bytes)
  {g cap m:Nat} {mi:Int} (hx:evalO a x=some (.slice (some ⟨g,0,none⟩) 0 cap)) (hy:evalO a y=some (.int .i64 mi)) (hmi:mi=(m:Nat)) (hm:cap<m) (hb:m*bytes≤140737488355328)
  (h:∀ g2 cp cur w',m≤cp→cp≤maxLen→cur.size=cp*k→St w0 M (blk g2 (.cells cur e)::L) w'→wpList Tryz.prog ops Q rest (a.put o1.dst (.slice (some ⟨g2,0,none⟩) m cp)) w'):AtAppZ Tryz.prog ops Q o1 t x y rest a w :=
 wpList_step fun _ hK=>by
  rw [if_pos hw]
  subst hmi
  obtain ⟨i,h2,h3,h4,h5⟩:=infoO_ok hi
  subst h4 h5
  have hr:=run_append_fresh (P:=Tryz.prog) (w:=w) (ty:=o1.type) (sliceO_ok hte) htn h2 h3 hk0 hb0 (g:=g) hm hb
  unfold Oper.wp execOp
  simp only [ho,resolve,invoke,builtin,Sem.run_bind,Sem.run_pure,Result.andThen_ok,List.map_toArray,List.map_cons,List.map_nil,evalO_eq hx,evalO_eq hy,hr]
  have hge:=grownCap_ge w m cap e
  have h47:m≤140737488355328:=Nat.le_trans (Nat.le_mul_of_pos_right _ hb0) hb
  refine hK _ _ (h _ _ _ _ hge (grownCap_le_maxLen w m cap e (by simp only [maxLen];omega)) ?_ (H.drew.alloc _))
  simp only [Array.size_append,size_zeroCells,hz,← Nat.add_mul]
  congr 1
  omega
end
theorem rowsA_blk {α:Type} {enc:α→List Value} {e k g n c:Nat} {xs:List α} {w0 w:World} {M:List Nat} {R:List As} (h:St w0 M (rowsA enc e k (.slice (some ⟨g,0,none⟩) n c) xs::R) w):∃ cur:Array Value,n≤c∧c≤maxLen∧xs.length=n∧cur.size=c*k∧cur.toList.take (n*k)=flatG enc xs∧St w0 M (blk g (.cells cur e)::R) w:=by
 have hown:=h.ho _ List.mem_cons_self
 rw [rowsA_ho] at hown
 obtain ⟨hlen,hown⟩:=hown
 rcases hown with ⟨h',_⟩|⟨g',cap,cs,h',_,hg,h5,h7,h6,h8⟩
 ·cases h'
 ·injection h' with e1 e2 e3
  injection e1 with e1
  injection e1 with e1
  subst e1 e2 e3
  exact ⟨cs,h5,h7,rfl,h6,h8,h.conv (by rw [rowsA_fp',blk_fp];rfl) fun _=>by rw [blk_ho];exact hg⟩
theorem blk_rows {α:Type} {enc:α→List Value} {e k g n c:Nat} {xs:List α} {w0 w:World} {M:List Nat} {R:List As} {cur:Array Value} (hk:∀ x,(enc x).length=k) (h:St w0 M (blk g (.cells cur e)::R) w) (h1:n≤c) (h2:c≤maxLen) (h3:xs.length=n) (h4:cur.size=c*k) (h5:cur.toList.take (n*k)=flatG enc xs):St w0 M (rowsA enc e k (.slice (some ⟨g,0,none⟩) n c) xs::R) w :=
 h.conv (by rw [rowsA_fp',blk_fp];rfl) fun hb=>by
  rw [blk_ho] at hb
  rw [rowsA_ho]
  subst h3
  exact ⟨flatG_len enc k hk xs,.inr ⟨g,c,cur,rfl,Nat.zero_le _,hb,h1,h2,h4,h5⟩⟩
end
section
open Go.RowKit Go.Maps Go.Lib
attribute [local go_sem] InGr
end
section
open Go.RowKit Go.Maps
attribute [local go_sem] InGr
def SymOf (S:Sto) (o:Option Tr) (id ky:Nat):Prop:=match o with|some x=>Den S id x∧ky=x.key|none=>id=0∧ky=0
theorem SymOf.zero {S:Sto} {o:Option Tr} {id ky:Nat} (h:SymOf S o id ky):id=0↔o=none:=by
 cases o with
 |none=>simp [h.1]
 |some x=>have:=h.1.1;simp;omega
theorem SymOf.eq {S:Sto} (hS:S.Ok) {o:Option Tr} {x:Tr} {id id2 ky:Nat} (h:SymOf S o id ky) (hx:Den S id2 x):id2=id↔o=some x:=by
 cases o with
 |none=>have:=hx.1;have:=h.1;simp;omega
 |some y =>
  have:=Den.eq_iff hS hx h.1
  rw [this]
  exact ⟨fun e=>by rw [e],fun e=>by injection e with e;exact e.symm⟩
structure ItOf (S:Sto) (i:It) (r:ItR):Prop where
 den:Den S r.id i.x
 ky:r.ky=i.x.key
 n:r.n=i.n
 nx:match i.nx with|some y=>Den S r.nx y|none=>r.nx=0
theorem ItOf.le {S S':Sto} {i:It} {r:ItR} (h:ItOf S i r) (hS:S.Ok) (hl:S.Le S'):ItOf S' i r:=by
 refine ⟨h.den.le hS hl,h.ky,h.n,?_⟩
 have:=h.nx
 cases hn:i.nx with
 |none=>rw [hn] at this;exact this
 |some y=>rw [hn] at this;exact this.le hS hl
def ItsOf (S:Sto):List It→List ItR→Prop
 |[],[]=>True
 |i::M,r::rs=>ItOf S i r∧ItsOf S M rs
 |_,_=>False
theorem ItsOf.le {S S':Sto} (hS:S.Ok) (hl:S.Le S'):∀ {M:List It} {rs:List ItR},ItsOf S M rs→ItsOf S' M rs
 |[],[],_=>trivial
 |i::M,r::rs,h=>⟨h.1.le hS hl,ItsOf.le hS hl h.2⟩
 |[],_::_,h=>h.elim
 |_::_,[],h=>h.elim
theorem ItsOf.len {S:Sto}:∀ {M:List It} {rs:List ItR},ItsOf S M rs→rs.length=M.length
 |[],[],_=>rfl
 |i::M,r::rs,h=>by simp [ItsOf.len h.2]
 |[],_::_,h=>h.elim
 |_::_,[],h=>h.elim
theorem ItsOf.append {S:Sto}:∀ {M N:List It} {rs ts:List ItR},ItsOf S M rs→ItsOf S N ts→ItsOf S (M++N) (rs++ts)
 |[],_,[],_,_,h=>h
 |i::M,_,r::rs,_,h,k=>⟨h.1,ItsOf.append h.2 k⟩
 |[],_,_::_,_,h,_=>h.elim
 |_::_,_,[],_,h,_=>h.elim
theorem ItsOf.snoc {S:Sto} {M:List It} {rs:List ItR} {i:It} {r:ItR} (h:ItsOf S M rs) (hi:ItOf S i r):ItsOf S (M++[i]) (rs++[r]):=h.append ⟨hi,trivial⟩
theorem ItsOf.nil_iff {S:Sto} {rs:List ItR} (h:ItsOf S [] rs):rs=[]:=by cases rs with|nil=>rfl|cons=>exact h.elim
theorem ItsOf.cons_iff {S:Sto} {i:It} {M:List It} {rs:List ItR} (h:ItsOf S (i::M) rs):∃ r ts,rs=r::ts∧ItOf S i r∧ItsOf S M ts:=by
 cases rs with
 |nil=>exact h.elim
 |cons r ts=>exact ⟨r,ts,rfl,h.1,h.2⟩
theorem ItsOf.split {S:Sto}:∀ {M N:List It} {rs:List ItR},ItsOf S (M++N) rs→∃ a c,rs=a++c∧ItsOf S M a∧ItsOf S N c
 |[],N,rs,h=>⟨[],rs,rfl,trivial,h⟩
 |i::M,N,rs,h=>by
  obtain ⟨r,ts,rfl,h1,h2⟩:=ItsOf.cons_iff h
  obtain ⟨a,c,rfl,h3,h4⟩:=ItsOf.split h2
  exact ⟨r::a,c,rfl,⟨h1,h3⟩,h4⟩
theorem ItsOf.snoc_iff {S:Sto} {i:It} {M:List It} {rs:List ItR} (h:ItsOf S (M++[i]) rs):∃ ts r,rs=ts++[r]∧ItsOf S M ts∧ItOf S i r:=by
 obtain ⟨a,c,rfl,h1,h2⟩:=h.split
 obtain ⟨r,ts,rfl,h3,h4⟩:=ItsOf.cons_iff h2
 have:=ItsOf.nil_iff h4
 subst this
 exact ⟨a,r,rfl,h1,h3⟩
theorem ItsOf.get {S:Sto}:∀ {M:List It} {rs:List ItR} {k:Nat} {i:It},ItsOf S M rs→M[k]?=some i→∃ r,rs[k]?=some r∧ItOf S i r
 |i::M,r::rs,0,j,h,e=>by simp at e;subst e;exact ⟨r,rfl,h.1⟩
 |i::M,r::rs,k+1,j,h,e=>by simpa using ItsOf.get h.2 (by simpa using e)
 |[],[],_,_,_,e=>by simp at e
 |[],_::_,_,_,h,_=>h.elim
 |_::_,[],_,_,h,_=>h.elim
end
section
open Go.RowKit Go.Maps
attribute [local go_sem] InGr
structure SpIn (X:Px) (cs:Array Value) (pl:Value) (fl:List Fr) (il kl:Nat) (pr:Value) (fr:List Fr) (ir kr:Nat) (mv:Value) (rs:List ItR) (d e:EndP) (M:List It):Prop where
 sz:cs.size=12
 c0:cs[0]?=some (.pointer (some ⟨X.p,0,none⟩))
 c11:cs[11]?=some mv
 left:EndIn X false cs 1 pl fl il kl d
 right:EndIn X true cs 6 pr fr ir kr e
 its:ItsOf X.S M rs
section
variable {X:Px} {b il kl ir kr:Nat} {cs:Array Value} {pl pr mv:Value} {fl fr:List Fr} {rs:List ItR} {d e:EndP} {M:List It}
theorem SpIn.ext {X':Px} (h:SpIn X cs pl fl il kl pr fr ir kr mv rs d e M) (hX:X.S.Ok) (he:X.Ext X'):SpIn X' cs pl fl il kl pr fr ir kr mv rs d e M:=⟨h.sz,by rw [he.p];exact h.c0,h.c11,h.left.ext hX he,h.right.ext hX he,h.its.le hX he.le⟩
theorem SpIn.c4 (h:SpIn X cs pl fl il kl pr fr ir kr mv rs d e M):cs[4]?=some (.int .i64 il):=h.left.at_.c3
theorem SpIn.c5 (h:SpIn X cs pl fl il kl pr fr ir kr mv rs d e M):cs[5]?=some (.int .u64 kl):=h.left.at_.c4
theorem SpIn.c9 (h:SpIn X cs pl fl il kl pr fr ir kr mv rs d e M):cs[9]?=some (.int .i64 ir):=h.right.at_.c3
end
end
section
open Go.RowKit Go.Maps
attribute [local go_sem] InGr
section
variable {ops:Array Oper} {a:Act} {w w0:World} {M:List Nat} {R:List As} {o1:Oper} {Rr:Value→World→Prop}
theorem StStep.rowAk {α:Type} {enc:α→List Value} {e ty:TypeId} {x y:Operand} {k g n c i j b:Nat} {xs:List α} (H:St w0 M (rowsA enc e k (.slice (some ⟨g,0,none⟩) n c) xs::R) w) (hw:Region.wanted o1 (yielded ops a.tmps)=true) (ho:o1.op=.store ty x y) (hx:a.eval x=.pointer (some ⟨g,b,none⟩)) {u:Value} (hr:isCellT ty=true) (hy:evalO a y=some u) (h1:u.oneCell'=true)
  (hk:∀ x,(enc x).length=k) {x0:α} (hi:xs[i]?=some x0) (hj:j<k) (hb:b=i*k+j) (z:α) (hz:enc z=(enc x0).set j u)
  (h:∀ w',St w0 M (rowsA enc e k (.slice (some ⟨g,0,none⟩) n c) (xs.set i z)::R) w'→Rr undef w'):StStep Tryz.prog ops o1 a w Rr:=by
 have hil:i<xs.length:=(List.getElem?_eq_some_iff.1 hi).1
 obtain ⟨cur,q1,q2,q3,q4,q5,H2⟩:=rowsA_blk H
 have hbl:b<cur.size:=by
  have h9:(i+1)*k≤xs.length*k:=Nat.mul_le_mul_right k hil
  have h10:(i+1)*k=i*k+k:=Nat.succ_mul i k
  have h11:=congrArg List.length q5
  rw [flatG_len enc k hk,List.length_take] at h11
  have h12:cur.toList.length=cur.size:=rfl
  omega
 refine StStep.storeC hw ho hx hr hy h1 H2 hbl fun w' H3=>h w' (blk_rows hk H3 q1 q2 (by rw [List.length_set];exact q3) (by simpa using q4) ?_)
 rw [Array.toList_setIfInBounds,List.take_set,q5,flatG_set hk hj hi hz,hb]
end
def pushR (rs:List ItR) (x:ItR):List ItR:=match rs.getLast? with
 |some j=>if j.id=x.id then rs.dropLast++[⟨j.id,j.nx,j.ky,j.n+x.n⟩] else rs++[x]
 |none=>rs++[x]
theorem pushR_nil (x:ItR):pushR [] x=[x]:=rfl
theorem pushR_snoc (ts:List ItR) (j x:ItR):pushR (ts++[j]) x=if j.id=x.id then ts++[⟨j.id,j.nx,j.ky,j.n+x.n⟩] else ts++[j]++[x]:=by simp [pushR]
theorem push_its {S:Sto} (hS:S.Ok) {M:List It} {rs:List ItR} {i:It} {x:ItR} (h:ItsOf S M rs) (hi:ItOf S i x):ItsOf S (pushI M i) (pushR rs x):=by
 rcases snoc_cases M with rfl|⟨M',j,rfl⟩
 ·rw [ItsOf.nil_iff h,pushI_nil,pushR_nil];exact ⟨hi,trivial⟩
 ·obtain ⟨ts,r,rfl,h1,h2⟩:=h.snoc_iff
  rw [pushI_snoc,pushR_snoc]
  by_cases he:r.id=x.id
  ·rw [if_pos he,if_pos ((Den.eq_iff hS h2.den hi.den).1 he)]
   exact h1.snoc ⟨h2.den,h2.ky,by simp only;rw [h2.n,hi.n],h2.nx⟩
  ·rw [if_neg he,if_neg (fun e=>he ((Den.eq_iff hS h2.den hi.den).2 e))]
   exact (h1.snoc h2).snoc hi
end
section
open Go.RowKit Go.Maps
attribute [local go_sem] InGr
theorem tie_len2:∀ {M:List It},Sg M→M.length≤(expI M).length
 |[],_=>by simp
 |i::M,h=>by
  have h1:=h i (by simp)
  have h2:=tie_len2 (M:=M) fun j hj=>h j (by simp [hj])
  rw [expI_cons]
  simp [It.exp,h1.1]
  omega
theorem exp_mem {i:It}:∀ {l:List It},i∈l→∃ a c,expI l=a++i.exp++c
 |j::l,h=>by
  rcases List.mem_cons.1 h with rfl|h
  ·exact ⟨[],expI l,by rw [expI_cons];simp⟩
  ·obtain ⟨a,c,e⟩:=exp_mem h
   exact ⟨j.exp++a,c,by rw [expI_cons,e];simp⟩
theorem exp_len_le {i:It} {l:List It} (h:i∈l):i.exp.length≤(expI l).length:=by
 obtain ⟨a,c,e⟩:=exp_mem h
 rw [e];simp;omega
theorem It.n_le (i:It):i.n≤i.exp.length:=by
 unfold It.exp
 split
 ·simp
 ·simp;omega
theorem item_n_le {i:It} {l:List It} (h:i∈l):i.n≤(expI l).length:=Nat.le_trans i.n_le (exp_len_le h)
theorem ItsOf.set {S:Sto}:∀ {M:List It} {rs:List ItR} {k:Nat} {i:It} {r:ItR},ItsOf S M rs→ItOf S i r→ItsOf S (M.set k i) (rs.set k r)
 |[],[],_,_,_,_,_=>trivial
 |_::_,_::_,0,_,_,h,hi=>⟨hi,h.2⟩
 |_::_,_::_,k+1,_,_,h,hi=>⟨h.1,ItsOf.set h.2 hi⟩
 |[],_::_,_,_,_,h,_=>h.elim
 |_::_,[],_,_,_,h,_=>h.elim
theorem ItsOf.take {S:Sto}:∀ {M:List It} {rs:List ItR} (k:Nat),ItsOf S M rs→ItsOf S (M.take k) (rs.take k)
 |[],[],k,_=>by cases k <;> exact trivial
 |_::_,_::_,0,_=>trivial
 |_::_,_::_,k+1,h=>⟨h.1,ItsOf.take k h.2⟩
 |[],_::_,_,h=>h.elim
 |_::_,[],_,h=>h.elim
end
section
open Go.RowKit Go.Maps
attribute [local go_sem] InGr
theorem pairs_fit {lv:Nat} {acc:List It} {x y:It} {r:List It} (h:fits lv x.x y.x=true):mPairs lv acc (x::y::r)=mPairs lv (pushI acc ⟨.pair x.x y.x,none,1⟩) r:=by conv=>lhs;unfold mPairs;rw [if_pos h]
structure MpIn (X X1:Px) (M:List It) (lv k:Nat) (A:List It) (acc:List ItR):Prop where
 ext:X.Ext X1
 ok:PxOk X1
 its:ItsOf X1.S A acc
 sg:Sg A
 way:mPairs lv A (M.drop k)=mPairs lv [] M
 sum:X1.S.list.length+((expI A).length+(M.length-k))≤X.S.list.length+M.length
 cnt:(expI A).length+(M.length-k)≤M.length
theorem MpIn.last {X X1:Px} {M:List It} {lv k:Nat} {A:List It} {acc:List ItR} (h:MpIn X X1 M lv k A acc) (hm:M.length≤1048576):acc.length≤1048576∧∀ j,acc.getLast?=some j→j.n+1≤1152921504606846976:=by
 have h1:=h.its.len
 have h2:=tie_len2 h.sg
 have h3:=h.cnt
 refine ⟨by omega,fun j hj=>?_⟩
 obtain ⟨q,hq⟩:=List.mem_iff_getElem?.1 (List.mem_of_getLast? hj)
 have hql:q<A.length:=by rw [← h1];exact gelt hq
 obtain ⟨jr,e1,e2⟩:=h.its.get (k:=q) (i:=A[q]) (by simp)
 rw [hq] at e1
 injection e1 with e1
 have h4:=item_n_le (List.getElem_mem hql)
 rw [e1,e2.n]
 omega
theorem push_len1 {A:List It} {i:It} (hA:Sg A) (hi:i.nx=none∧i.n=1):(expI (pushI A i)).length=(expI A).length+1:=by
 have:=(push_sg (i:=i) hA ⟨hi.1,by omega⟩).2
 rw [this]
 simp [It.exp,hi.1,hi.2]
theorem MpIn.one {X X1:Px} {M:List It} {lv k:Nat} {A:List It} {acc:List ItR} {i:It} {r:ItR} (h:MpIn X X1 M lv k A acc) (hM:One M) (hi:M[k]?=some i) (hr:ItOf X1.S i r) (hw:mPairs lv (pushI A i) (M.drop (k+1))=mPairs lv A (M.drop k)):MpIn X X1 M lv (k+1) (pushI A i) (pushR acc r):=by
 have hk:=gelt hi
 have h1:=hM i (List.mem_of_getElem? hi)
 have h2:=push_len1 h.sg h1
 have h3:=h.sum
 have h4:=h.cnt
 exact ⟨h.ext,h.ok,push_its h.ok.ok h.its hr,(push_sg (i:=i) h.sg ⟨h1.1,by omega⟩).1,hw.trans h.way,by omega,by omega⟩
theorem MpIn.two {X X1 X2:Px} {M:List It} {lv k:Nat} {A:List It} {acc ac2:List ItR} {x y:It} (h:MpIn X X1 M lv k A acc) (hx:M[k]?=some x) (hy:M[k+1]?=some y) (hf:fits lv x.x y.x=true) (he:X1.Ext X2) (ho:PxOk X2) (hl:X2.S.list.length≤X1.S.list.length+1) (hi:ItsOf X2.S (pushI A ⟨.pair x.x y.x,none,1⟩) ac2):MpIn X X2 M lv (k+2) (pushI A ⟨.pair x.x y.x,none,1⟩) ac2:=by
 have hk:=gelt hy
 have h2:=push_len1 (i:=⟨.pair x.x y.x,none,1⟩) h.sg ⟨rfl,rfl⟩
 have h3:=h.sum
 have h4:=h.cnt
 have e1:M.drop k=x::y::M.drop (k+2):=by
  rw [List.drop_eq_getElem_cons (by omega),List.drop_eq_getElem_cons hk]
  rw [List.getElem?_eq_getElem (by omega)] at hx hy
  injection hx with hx
  injection hy with hy
  rw [hx,hy]
 refine ⟨h.ext.trans he,ho,hi,(push_sg (i:=⟨.pair x.x y.x,none,1⟩) h.sg ⟨rfl,Nat.le_refl _⟩).1,?_,by omega,by omega⟩
 rw [← h.way,e1,pairs_fit hf]
theorem drop_one {M:List It} {k:Nat} {x:It} (hx:M[k]?=some x):M.drop k=x::M.drop (k+1):=by
 have hk:=gelt hx
 rw [List.drop_eq_getElem_cons hk]
 rw [List.getElem?_eq_getElem hk] at hx
 injection hx with hx
 rw [hx]
end
section
def GatR (lv:Nat) (d e:EndP) (M:List It) (d1 e2:EndP) (M2:List It):Prop :=
 if lv%2=1 then d1=(gRunL lv d e M).1∧e2=(gRunR lv (gRunL lv d e M).1 e (gRunL lv d e M).2).1∧M2=(gRunR lv (gRunL lv d e M).1 e (gRunL lv d e M).2).2
 else if isTie lv=true then d1=(gPairL lv d e M).1∧GStr lv e (gPairL lv d e M).2 e2 M2
 else d1=(gPairL lv d e M).1∧e2=(gPairR lv (gPairL lv d e M).1 e (gPairL lv d e M).2).1∧M2=(gPairR lv (gPairL lv d e M).1 e (gPairL lv d e M).2).2
def MrgF (lv:Nat) (M:List It):List It:=if lv%2=1 then mRuns M else if isTie lv=true then mStrE (M.foldl mStr1 ([],none)) else mPairs lv [] M
theorem GatR.lev {lv:Nat} {d e d1 e2:EndP} {M M2:List It} (h:GatR lv d e M d1 e2 M2):LevR lv d e M (upT false lv d1) (upT true lv e2) (MrgF lv M2):=by
 unfold GatR at h
 unfold LevR MrgF
 by_cases h1:lv%2=1
 ·rw [if_pos h1] at h ⊢
  rw [if_pos h1]
  obtain ⟨rfl,rfl,rfl⟩:=h
  exact ⟨rfl,rfl,rfl⟩
 ·rw [if_neg h1] at h ⊢
  rw [if_neg h1]
  by_cases h2:isTie lv=true
  ·rw [if_pos h2] at h ⊢
   rw [if_pos h2]
   obtain ⟨rfl,h⟩:=h
   exact ⟨e2,M2,h,rfl,rfl,rfl⟩
  ·rw [if_neg h2] at h ⊢
   rw [if_neg h2]
   obtain ⟨rfl,rfl,rfl⟩:=h
   exact ⟨rfl,rfl,rfl⟩
structure GatOk (a b:Tr) (s:List Tr) (m:Nat) (d1 e2:EndP) (M2:List It):Prop where
 z1:EndZ a d1
 z2:EndZ b e2
 run:m%2=0→Sg M2
 tie:m%2=1→isTie (m+1)=true→Tie M2
 one:m%2=1→isTie (m+1)=false→One M2
 cnt:(expI M2).length≤(seqP s m).length
 len:lenL (expI M2)≤lenL s
 gain:(seqP s (m+1)).length+(expI M2).length≤(seqP s m).length+(expI (MrgF (m+1) M2)).length
theorem seqP_len (s:List Tr):∀ m,(seqP s m).length≤s.length
 |0=>Nat.le_refl _
 |m+1=>Nat.le_trans (step_len (m+1) (seqP s m)) (seqP_len s m)
theorem GatOk.of {a b:Tr} {s:List Tr} {m:Nat} {L R P Q:List Tr} {d1 e2:EndP} {M M1 M2:List It} (hs:Leaves s) (h3:seqP s m=L++expI M++R) (hl:LOk a m L R M d1 M1 P) (hr:ROk b m R M1 e2 M2 Q) (hm:expI (MrgF (m+1) M2)=stepP (m+1) (expI M2))
  (h5:m%2=0→Sg M2) (h6:m%2=1→isTie (m+1)=true→Tie M2) (h7:m%2=1→isTie (m+1)=false→One M2):GatOk a b s m d1 e2 M2:=by
 have hlev:=level_ok h3 hl hr hm
 obtain ⟨Y,y1,y2⟩:=hl.mv
 obtain ⟨Z,z1,z2⟩:=hr.mv
 have hE:seqP s m=P.flatMap (Tr.lay m)++expI M2++Q.flatMap (Tr.lay m):=by rw [h3,z2,y2,y1,z1];simp
 have hP:∀ t∈P,t.Pow2:=fun t ht=>seq_pow2 hs (m+1) t (by rw [hlev];simp [ht])
 have hQ:∀ t∈Q,t.Pow2:=fun t ht=>seq_pow2 hs (m+1) t (by rw [hlev];simp [ht])
 have fl:∀ l:List Tr,(∀ t∈l,t.Pow2)→l.length≤(l.flatMap (Tr.lay m)).length:=fun l=>by
  induction l with
  |nil=>intro _;simp
  |cons t l ih =>
   intro h
   have h1:=lay_pos (m:=m) (h t (by simp))
   have h2:=ih fun u hu=>h u (by simp [hu])
   simp only [List.flatMap_cons,List.length_append,List.length_cons]
   omega
 have h1:=fl P hP
 have h2:=fl Q hQ
 have hlen:=congrArg List.length hE
 have hlen2:=congrArg List.length hlev
 simp only [List.length_append] at hlen hlen2
 refine ⟨.ofL hl.end_,.ofR hr.end_,h5,h6,h7,by omega,?_,by omega⟩
 rw [← lenL_seq s m,hE,lenL_append,lenL_append]
 omega
structure SpI0 (a b:Tr) (s:List Tr) (m:Nat) (d e:EndP) (M:List It):Prop where
 z1:EndZ a d
 z2:EndZ b e
 cnt:M.length≤s.length
theorem SpI.zero {a b:Tr} {s:List Tr} {i n m:Nat} {d e:EndP} {M:List It} (h:SpI a b s i n m d e M):SpI0 a b s m d e M:=by
 obtain ⟨L,R,h1,h2,h3,_,_⟩:=h.ex
 refine ⟨.ofL h1,.ofR h2,?_⟩
 have h4:=tie_len2 h.sg
 have h5:=seqP_len s m
 rw [h3] at h5
 simp only [List.length_append] at h5
 omega
theorem SpI.mid {a b:Tr} {s:List Tr} {i n m:Nat} {d e:EndP} {M:List It} (h:SpI a b s i n m d e M) (ho:m%2=1):∃ R,EndR b m e R∧One (gPairL (m+1) d e M).2∧(expI (gPairL (m+1) d e M).2).length+R.length≤s.length∧(gPairL (m+1) d e M).2.length≤s.length:=by
 obtain ⟨L,R,h1,h2,h3,_,_⟩:=h.ex
 obtain ⟨P,hl⟩:=gPairL_ok ho h.ca h1 (head_exp h.sg h2)
 have hone1:=gPairL_one (lv:=m+1) (d:=d) (e:=e) (h.one ho)
 obtain ⟨Y,y1,y2⟩:=hl.mv
 have h5:=seqP_len s m
 rw [h3,y1] at h5
 have h6:=congrArg List.length y2
 have h7:=tie_len2 hone1.sg
 simp only [List.length_append] at h5 h6
 exact ⟨R,h2,hone1,by omega,by omega⟩
end
section
open Go.RowKit Go.Maps
attribute [local go_sem] InGr
end
end Go.Proofs.YtgnppnokkdghcaaGreatDoor
