/-
  Part 3 of the texts behind the statements of this seat: walks and laws Bg, Bh, Bi, Ae, Af, Bj, Bk, Bl, Bm, Bn, Bo, Sg, Sk, Bp, Bq, Br. Conditions: as each states.
-/
import Derived.Test.YtgnppnokkdghcaaGreatDoorAz2
import Derived.Deep.LoopGhost
import Derived.Lib.AppendZeros
set_option linter.unusedSimpArgs false
set_option linter.unusedVariables false
set_option maxRecDepth 100000
set_option maxHeartbeats 80000000
open Array renaming ext_getElem?→yr,getD_eq_getD_getElem?→zD,getElem?_eq_none→qw,getElem?_eq_some_iff→yV,getElem?_setIfInBounds_ne→zz,getElem?_setIfInBounds_self→jI,replicate→J7
open Bool renaming and_eq_true→zu,false_eq_true→xA,not_eq_true'→Zv,or_eq_true→vg
open Go.Proofs.Tryz renaming prog→zb
open Int renaming natCast_mul→Yl
open List renaming Perm→wg,all_eq_true→zF,append_assoc→zQ,append_nil→qO,cons→Zq,cons_append→zo,contains_eq_mem→w6,drop_eq_getElem_cons→yj,drop_of_length_le→yo,drop_succ_cons→wQ,drop_zero→yw,eq_nil_of_length_eq_zero→qe,eq_of_mem_replicate→xy,ext_getElem?→Zm,filter_cons→kA,flatMap_append→zI,flatMap_cons→zt,flatMap_nil→wW,flatMap_replicate→jc,foldl_cons→zB,foldl_nil→zx,getD_eq_getElem?_getD→Zn,getElem?_append→yS,getElem?_append_right→yd,getElem?_drop→yh,getElem?_eq_none→Qm,getElem?_eq_some_iff→xB,getElem?_map→yf,getElem?_replicate→x4,getElem?_set_ne→j5,getElem?_set_self→kb,getElem?_take→wh,getLast?_append→xu,length→ym,length_append→zi,length_cons→zw,length_drop→qC,length_map→qd,length_nil→zC,length_replicate→qr,length_set→wo,length_singleton→qP,length_take→qg,map_append→xH,map_congr_left→Ym,map_cons→zX,map_map→Zt,map_nil→ye,map_replicate→Qa,map_toArray→xo,mem_append→zl,mem_cons→zL,mem_cons_self→zN,mem_flatten→vc,mem_iff_getElem?→Yi,mem_map→qY,mem_of_getElem?→zy,mem_range→zJ,mem_singleton→Zx,nil_append→zv,nodup_append→yT,pairwise_append→j6,pairwise_cons→qu,range→zk,range_succ→vh,replicate→zd,replicate_succ→zS,replicate_succ'→xG,setIfInBounds_toArray→zf,set_cons_succ→zp,set_cons_zero→zq,size_toArray→XV,sum_replicate_nat→Xz,take_add_one→x5,take_append→Zy,take_length→jx,take_of_length_le→qp,take_zero→jA
open Nat renaming add_assoc→wA,add_comm→kf,add_mul→xl,eq_zero_or_pos→qk,exists_eq_succ_of_ne_zero→zA,le_mul_of_pos_left→wY,le_mul_of_pos_right→jg,le_refl→zr,le_trans→qs,lt_or_ge→yI,min_eq_left→kF,mod_eq_of_lt→xI,mod_lt→qM,mul_le_mul_right→y9,one_mul→QK,strongRecOn→yJ,sub_self→QL,succ_eq_add_one→J9,succ_mul→XX,zero_add→qQ,zero_le→qy,zero_mul→QM
open Option renaming map_some→Qb,some→yk
namespace Go.Proofs.YtgnppnokkdghcaaGreatDoor
section
open Go.RowKit Go.Maps Go.Lib
attribute [local go_sem] qt
def wX (z:List Value) (m:Nat):List Value:=(zd m z).flatten
theorem Kc (z:List Value) (m:Nat):(wX z m).length=m*z.length:=by
 unfold wX;rw [List.length_flatten,Qa,Xz]
theorem Kb (z:List Value) (hz:0<z.length):∀ (m j:Nat),j<m*z.length->(wX z m)[j]?=z[j%z.length]?
 |0,j,h=>by omega
 |m+1,j,h=>by
  have e:wX z (m+1)=z++wX z m:=(by simp [wX,zS]);rw [e,yS];split
  ·rename_i h1;rw [xI h1]
  ·rename_i h1;rw [xl] at h;rw [Kb z hz m (j-z.length) (by omega)];congr 1
   rw [← Nat.mod_eq_sub_mod (by omega)]
theorem YQ (z:Array Value) (hz:0<z.size) (m:Nat):(Builtin.zeroCells z m).toList=wX z.toList m:=by
 apply Zm;intro j;by_cases hj:j<m*z.size
 ·rw [Kb z.toList (by simpa using hz) m j (by simpa using hj)];have hm:j%z.size<z.size:=qM _ hz;simp [Builtin.zeroCells,hj,hm]
 ·rw [Qm (by simp [Builtin.zeroCells];omega),Qm (by rw [Kc];simp;omega)]
section
variable {P:Program} {w:World}
theorem Q8 (t tn ty e:TypeId) (i:TypeInfo) (z:Value) (size bytes:Nat) (ht:P.underlying t=some (.slice e)) (htn:P.underlying tn=some (.int .i64)) (hi:P.info? e=some i) (hz:i.zero=some z)
  (hsize:i.size=size) (hby:i.bytes=bytes) (hzs:z.cells.size=size) (hsz:0<size)
  (v:Value) (n:Nat) (xs:List Value) (hown:(QD e size v n xs).ho w)
  (m:Nat) (hm0:0<m) (h1:∀ u∈z.cells.toList,u.oneCell'=true)
  (hbytes:(n+m)*bytes<=140737488355328) (hb1:0<bytes) :
  ∃ v' w',(Builtin.append_ #[t,tn] ty #[v,.int .i64 m]).run P w=.ok v' w'∧St w (QD e size v n xs).fp [QD e size v' (n+m) (xs++wX z.cells.toList m)] w':=by
 rw [rawA_ho] at hown;have h47:n+m<=140737488355328:=qs (jg _ hb1) hbytes;have h63:n+m<=maxLen:=(by simp only [maxLen];omega);subst hsize hby;have hl:(wX z.cells.toList m).length=m*i.size:=(by rw [Kc];simp [hzs]);have hw:IntKind.i64.wrap (m:Int)=m:=(by rw [IntKind.wrap_i64];omega);have hmb:m*i.bytes<=(n+m)*i.bytes:=y9 _ (by omega);have h48i:¬ (281474976710656<(m:Int)*(i.bytes:Int)):=(by rw [← Yl];omega);have hneg:¬ ((m:Int)<0):=(by omega);have hns:¬ (m*i.size=0):=Nat.mul_ne_zero (by omega) (by omega);have hones:∀ u∈wX z.cells.toList m,u.oneCell'=true:=fun u hu=>by
  unfold wX at hu;obtain ⟨l,hl,hu⟩:=vc.1 hu;rw [xy hl] at hu;exact h1 u hu
 have hlen:(xs++wX z.cells.toList m).length=(n+m)*i.size:=(by rw [zi,hown.1,hl,xl]);have hm0':m≠0:=(by omega);have hs0':i.size≠0:=(by omega);have hzc:=YQ z.cells (by omega) m;have hza:Builtin.zeroCells z.cells m=(wX z.cells.toList m).toArray:=(by rw [← hzc]);have grown:∀ (old:Nat),old<n+m ->
   St w (QD e i.size v n xs).fp [QD e i.size (.slice (some ⟨w.heap.size,0,none⟩) (n+m) (grownCap w (n+m) old e)) (n+m) (xs++wX z.cells.toList m)] (w.drew.alloc (.cells (xs.toArray++(wX z.cells.toList m).toArray++Builtin.zeroCells z.cells (grownCap w (n+m) old e-(n+m))) e)):=by
  intro old ho;have hge:=grownCap_ge w (n+m) old e;have hcm:grownCap w (n+m) old e<=maxLen:=grownCap_le_maxLen w (n+m) old e h63;refine WS rfl rfl rfl (by simp) (fun b hb _=>kI w.drew _ b hb) ⟨hlen,.inr ⟨w.heap.size,_,_,rfl,qy _,Vp w.drew _,hge,hcm,?_,?_⟩⟩ (fun b hb=>.inl (by injection hb with hb;exact Nat.le_of_eq hb))
  ·simp only [Array.size_append,XV,size_zeroCells,hzs,hown.1,hl,← xl];congr 1
   omega
  ·simp only [Array.toList_append,zQ];rw [← zQ,← hlen];exact List.take_left
 rcases hown.2 with ⟨rfl,rfl⟩|⟨g,cap,cur,rfl,hbg,hg,hnc,hcm,hcs,htake⟩
 ·have hx:xs=[]:=qe (by simpa using hown.1);subst hx;have hr:=run_append_nil_zeros (P:=P) w t tn ty e i z .i64 .i64 ht htn hi hz m hm0 hsz (by omega) (by omega);have hgr:=grown 0 (by omega);rw [hza] at hr;simp only [qQ,zv,Array.empty_append] at hgr ⊢;exact ⟨_,_,hr,hgr⟩
 ·by_cases hroom:n+m<=cap
  ·have hst:=run_storeCells_at P g (n*i.size) e (wX z.cells.toList m) 0 cur w hg (by rw [hl,hcs,Nat.add_zero,← xl];exact y9 _ hroom) hones;simp only [Nat.add_zero] at hst;have hr:(Builtin.append_ #[t,tn] ty #[.slice (some ⟨g,0,none⟩) n cap,.int .i64 m]).run P w=.ok (.slice (some ⟨g,0,none⟩) (n+m) cap) (w.setRow g (cur.toList.take (n*i.size)++wX z.cells.toList m++cur.toList.drop (n*i.size+(wX z.cells.toList m).length)).toArray):=by
    simp [Builtin.append_,run_underlying ht,run_underlying htn,sizeOf,typeInfo,zeroValue,hi,hz,asInt,asIntOf,hw,hneg,h48i,hns,hm0',hs0',hroom,hzc,Addr.add_lit,hst]
   refine ⟨_,_,hr,WS rfl rfl rfl (by simp) (fun b hb hne=>setRow_other w g b _ fun e=>hne (by rw [← e];rfl)) ⟨hlen,.inr ⟨g,cap,_,rfl,qy _,setRow_heap w g _ _ _ _ hg,hroom,hcm,?_,?_⟩⟩ (fun b hb=>.inr hb)⟩
   ·have h5:cur.toList.length=cap*i.size:=(by simpa using hcs);have h6:(n+m)*i.size<=cap*i.size:=y9 _ hroom;rw [xl] at h6;simp only [XV,zi,qg,qC,hl];omega
   ·have h5:(cur.toList.take (n*i.size))=xs:=htake;simp only [h5];rw [← hlen];exact List.take_left
  ·have h63':¬ (9223372036854775807<((n:Int)+(m:Int))):=(by omega);have hfit:=growslice_fits (need:=n+m) (old:=cap) (bytes:=i.bytes) (by omega) hbytes;have h48':¬ (281474976710656<Builtin.nextslicecap (n+m) cap*i.bytes):=(by omega);have holds:∀ j u,xs[j]?=some u->w.cell? ((⟨g,0,none⟩:Addr).add j)=some u:=World.ownsRow.cells (v:=.slice (some ⟨g,0,none⟩) n cap) hown (g:=g) rfl;have hfo:=run_firstCells_some (P:=P) w.drew i.size n ⟨g,0,none⟩ n cap xs hown.1 (by simpa using holds);have hr:(Builtin.append_ #[t,tn] ty #[.slice (some ⟨g,0,none⟩) n cap,.int .i64 m]).run P w=.ok (.slice (some ⟨w.heap.size,0,none⟩) (n+m) (grownCap w (n+m) cap e)) (w.drew.alloc (.cells (xs.toArray++(wX z.cells.toList m).toArray++Builtin.zeroCells z.cells (grownCap w (n+m) cap e-(n+m))) e)):=by
    simp [Builtin.append_,run_underlying ht,run_underlying htn,sizeOf,typeInfo,zeroValue,hi,hz,asInt,asIntOf,hw,hneg,h48i,hns,hm0',hs0',hroom,h63',h48',Question.forced,hfo,newRow,grownCap,hza];congr 2
    apply Array.ext';simp [zQ]
   exact ⟨_,_,hr,grown cap (by omega)⟩
end
theorem flatG_zero {α:Type} (enc:α->List Value) (x:α) (z:List Value) (hz:enc x=z) (m:Nat):zU enc (zd m x)=wX z m:=by
 unfold zU wX;rw [jc,hz]
theorem StStep.appendZ {α:Type} {enc:α->List Value} {ops:Array Oper} {a:Act} {w w0:World} {M:List Nat} {L:List As} {o:Oper} {Rr:Value->World->Prop} {x y:Operand} {t tn e:TypeId} (hw:Region.wanted o (yielded ops a.tmps)=true) (ho:o.op=.call ⟨.builtin .append,#[x,y],#[t,tn]⟩) (htn:zb.underlying tn=some (.int .i64)) (hte:yv t=some e) {z:Value} {k bytes:Nat} (hi:xx e=some (z,k,bytes)) (hz:z.cells.size=k) (hk0:0<k) (hb0:0<bytes) (h1:∀ u∈z.cells.toList,u.oneCell'=true)
  {v:Value} {m:Nat} {xs:List α} (x0:α) (hx0:enc x0=z.cells.toList) (hm:0<m) (hx:yU a x=some v) (hy:yU a y=some (.int .i64 m)) (H:St w0 M (zc enc e k v xs::L) w) (hb:(xs.length+m)*bytes<=140737488355328)
  (h:∀ v' w',St w0 M (zc enc e k v' (xs++zd m x0)::L) w'->Rr v' w'):StStep zb ops o a w Rr:=by
 obtain ⟨i,h2,h3,h4,h5⟩:=x6 hi;have hown:=H.ho _ zN;unfold zc at hown;obtain ⟨v',w',hr,hst⟩:=Q8 (P:=zb) (ty:=o.type) t tn e i z k bytes (yi hte) htn h2 h3 h4 h5 hz hk0 v xs.length (zU enc xs) hown m hm h1 hb hb0;refine StStep.val hw (by unfold execOp;simp only [ho,resolve,invoke,builtin,Sem.run_bind,Sem.run_pure,Result.andThen_ok,xo,zX,ye,yg hx,yg hy,hr]) (h v' w' ?_);have hst':St w (zc enc e k v xs).fp [zc enc e k v' (xs++zd m x0)] w':=by
  unfold zc;rw [zi,qr,show zU enc (xs++zd m x0)=zU enc xs++wX z.cells.toList m by rw [← flatG_zero enc x0 _ hx0];simp [zU]];exact hst
 exact H.call hst'
end
section
open Go.RowKit Go.Maps
attribute [local go_sem] qt
def qE (i:Nat):List Value:=[.int .i64 i]
theorem ya (i:Nat):(qE i).length=1:=rfl
theorem wu (x:Nat):∀ u∈qE x,u.oneCell'=true:=by
 intro u hu;rw [qE,Zx] at hu;subst hu;rfl
theorem Xq {α:Type} {enc:α->List Value} {e g n c i:Nat} {xs:List α} {x:α} {u:Value} {w:World} (h:(zc enc e 1 (.slice (some ⟨g,0,none⟩) n c) xs).ho w) (hk:∀ x,(enc x).length=1) (hx:xs[i]?=some x) (hu:enc x=[u]):w.cell? ⟨g,i,none⟩=some u:=by
 have:=qj h hk hx (j:=0) (u:=u) (by rw [hu];rfl);simpa using this
section
variable {w0 w:World} {M:List Nat} {L:List As}
theorem St.sepO {A B:As} {R R':List As} (h:St w0 M L w) (h1:Pick L A R) (h2:Pick R B R'):(A.sep B).ho w:=by
 have:=(h.pick2 h1 h2).join;exact this.ho _ zN
end
theorem ts {P:Prop} (h:P:=by first|exact H.sepK HK pk pk|exact H.sepO pk pk):P:=h
theorem Xf {α:Type} {enc:α->List Value} {k:Nat} (hk:∀ x,(enc x).length=k):∀ {xs:List α} {i:Nat},i<xs.length->∀ z,zU enc (xs.set i z)=(zU enc xs).take (i*k)++enc z++(zU enc xs).drop (i*k+k)
 |[],i,h,_=>by simp at h
 |x::r,0,h,z=>by
  show enc z++zU enc r=(enc x++zU enc r).take (0*k)++enc z++(enc x++zU enc r).drop (0*k+k)
  rw [QM,jA,zv,qQ,List.drop_left' (hk x)]
 |x::r,i+1,h,z=>by
  have ih:=Xf hk (xs:=r) (i:=i) (by simpa using h) z;show enc x++zU enc (r.set i z)=(enc x++zU enc r).take ((i+1)*k)++enc z++(enc x++zU enc r).drop ((i+1)*k+k)
  have e:(i+1)*k=k+i*k:=(by rw [XX,kf]);rw [ih,e,Zy,List.drop_append,hk,qp (l:=enc x) (by rw [hk];omega),yo (l:=enc x) (by rw [hk];omega),show k+i*k-k=i*k by omega,show k+i*k+k-k=i*k+k by omega];simp
theorem AtStore.rowEl {ops:Array Oper} {Q:Exit->Act->World->Prop} {rest:List Oper} {a:Act} {w w0:World} {M:List Nat} {L R:List As} {o1:Oper} {α:Type} {enc:α->List Value} {e ty:TypeId} {x y:Operand} {k g n c i b:Nat} {xs:List α} (H:St w0 M L w) (hw:Region.wanted o1 (yielded ops a.tmps)=true) (ho:o1.op=.store ty x y) (hx:a.eval x=.pointer (some ⟨g,b,none⟩)) {cs:Array Value} (hr:jW ty cs.size=true) (hy:yU a y=some (.agg cs)) (h1:Xj cs.toList=true)
  (hp:Pick L (zc enc e k (.slice (some ⟨g,0,none⟩) n c) xs) R) (hk:∀ x,(enc x).length=k) (hi:i<xs.length) (hb:b=i*k) (z:α) (hz:enc z=cs.toList)
  (h:∀ w',St w0 M (zc enc e k (.slice (some ⟨g,0,none⟩) n c) (xs.set i z)::R) w'->wpList zb ops Q rest (a.put o1.dst undef) w'):AtStore zb ops Q o1 ty x y rest a w:=by
 have H':=H.pick hp;have hown:=H'.ho _ zN;rw [ww] at hown;obtain ⟨hlen,hown⟩:=hown;rcases hown with ⟨h',_⟩|⟨g',cap,cur,h',_,hg,h5,h7,h6,h8⟩
 ·cases h'
 ·injection h' with e1 e2 e3
  injection e1 with e1
  injection e1 with e1
  subst e1 e2 e3 hb;have H2:St w0 M (blk g (.cells cur e)::R) w:=H'.conv (by rw [qS,w8];rfl) fun _=>by rw [xp];exact hg
  have hck:cs.size=k:=(by have:=hk z;rw [hz] at this;simpa using this);have h9:(i+1)*k<=xs.length*k:=y9 k hi;have h10:(i+1)*k=i*k+k:=XX i k;have h11:=congrArg ym h8;rw [yW enc k hk,qg] at h11;have h12:cur.toList.length=cur.size:=rfl;have hbl:i*k+cs.size<=cur.size:=(by omega);refine AtStore.mid H2 hw ho hx hy rfl (Zh (xN hr)) (Y2 h1) Upd.here hbl rfl fun w' H3=>h w' ?_
  refine H3.conv (by rw [qS,w8];rfl) fun hb'=>?_
  rw [xp] at hb';rw [ww];have hset:(cur.toList.take (i*k)++cs.toList++cur.toList.drop (i*k+cs.size)).take (xs.length*k)=zU enc (xs.set i z):=by
   rw [Xf hk hi z,← h8,hz,List.take_take,kF (by omega),List.drop_take,hck];have l1:(cur.toList.take (i*k)).length=i*k:=(by rw [qg];omega);have l2:cs.toList.length=k:=(by simpa using hck);rw [zQ,zQ,Zy,l1,qp (l:=cur.toList.take (i*k)) (by rw [l1];omega),Zy,l2,qp (l:=cs.toList) (by rw [l2];omega)];rw [show xs.length*k-i*k-k=xs.length*k-(i*k+k) by omega]
  refine ⟨by rw [yW enc k hk],.inr ⟨g,c,_,by rw [wo],qy _,hb',by rw [wo];exact h5,h7,?_,?_⟩⟩
  ·simp only [XV,zi,qg,qC,Array.length_toList] at h6 ⊢;omega
  ·rw [wo];exact hset
end
section
open Go.RowKit Go.Maps
attribute [local go_sem] qt
def Rows (S:Sto) (rows:List Kr):Prop:=∀ (i:Nat) (r:Kr),rows[i]?=some r->RowOk S i r
def unk (rows:List Kr):Nat:=(rows.filter fun r=>!r.known).length
theorem KV {rows:List Kr} {i:Nat} {r z:Kr} (h:rows[i]?=some r) (hr:r.known=false) (hz:z.known=true):unk (rows.set i z)+1=unk rows:=by
 induction rows generalizing i with
 |nil=>simp at h
 |cons x l ih =>
  cases i with
  |zero =>
   have:x=r:=by simpa using h
   subst this;simp [unk,hr,hz]
  |succ i =>
   have:=ih (i:=i) (by simpa using h);unfold unk at this ⊢;rw [zp,kA,kA];split <;> simp_all <;> omega
structure KStk (rows:List Kr) (id:Nat) (stk:List Nat):Prop where
 low:∀ x∈stk,1<=x∧x<=id
 unk:∀ x∈stk,∃ r,rows[x]?=some r∧r.known=false
 down:stk.Pairwise fun a b=>b<a
theorem KStk.len {rows:List Kr} {id:Nat} {stk:List Nat} (h:KStk rows id stk):stk.length<=id:=by
 have aux:∀ (l:List Nat) (m:Nat),l.Pairwise (fun a b=>b<a)->(∀ x∈l,1<=x∧x<=m)->l.length<=m:=by
  intro l;induction l with
  |nil=>intro m _ _;simp
  |cons y l ih =>
   intro m hp hl;obtain ⟨h1,h2⟩:=qu.1 hp;have:=ih (y-1) h2 fun x hx=>by have:=h1 x hx;have:=(hl x (by simp [hx])).1;omega
   have:=hl y (by simp);simp;omega
 exact aux stk id h.down h.low
theorem KStk.push {rows:List Kr} {id:Nat} {st:List Nat} {x y:Nat} (h:KStk rows id (st++[x])) (hy:1<=y) (hyx:y<x) {r:Kr} (hr:rows[y]?=some r) (hu:r.known=false):KStk rows id (st++[x]++[y]):=by
 have hx:=h.low x (by simp);refine ⟨fun z hz=>?_,fun z hz=>?_,j6.2 ⟨h.down,by simp,fun a ha b hb=>?_⟩⟩
 ·rcases zl.1 hz with hz|hz
  ·exact h.low z hz
  ·simp at hz;subst hz;exact ⟨hy,by omega⟩
 ·rcases zl.1 hz with hz|hz
  ·exact h.unk z hz
  ·simp at hz;subst hz;exact ⟨r,hr,hu⟩
 ·simp at hb;subst hb;rcases zl.1 ha with ha|ha
  ·have:=(j6.1 h.down).2.2 a ha x (by simp);omega
  ·simp at ha;subst ha;exact hyx
theorem KStk.pop {rows:List Kr} {id:Nat} {st:List Nat} {x:Nat} {z:Kr} (h:KStk rows id (st++[x])):KStk (rows.set x z) id st:=by
 refine ⟨fun y hy=>h.low y (by simp [hy]),fun y hy=>?_,(j6.1 h.down).1⟩;obtain ⟨r,hr,hu⟩:=h.unk y (by simp [hy]);have:=(j6.1 h.down).2.2 y hy x (by simp);exact ⟨r,by rw [j5 (by omega)];exact hr,hu⟩
theorem KStk.one {rows:List Kr} {id:Nat} (h1:1<=id) {r:Kr} (hr:rows[id]?=some r) (hu:r.known=false):KStk rows id [id] :=
 ⟨by simpa using h1,by simpa using ⟨r,hr,hu⟩,by simp⟩
def yz (S:Sto) (id:Nat):Kr:=⟨(S.tr id).key,lvI (S.tr id).lev,true⟩
theorem RowOk.eq {S:Sto} {id:Nat} {r:Kr} (h:RowOk S id r) (hk:r.known=true):r=yz S id:=by
 rcases h with h|⟨_,_,h⟩
 ·rw [h] at hk;cases hk
 ·exact h
theorem Rows.set {S:Sto} {rows:List Kr} (h:Rows S rows) {x:Nat} (h1:1<=x) (h2:x<=S.list.length):Rows S (rows.set x (yz S x)):=fun i r hr=>by
 by_cases hix:x=i
 ·subst hix;rw [kb (by have:=yE hr;simpa using this)] at hr;injection hr with hr
  exact .inr ⟨h1,h2,hr.symm⟩
 ·rw [j5 hix] at hr;exact h i r hr
theorem RowOk.bounds {S:Sto} (hS:S.Ok) {id:Nat} {r:Kr} (h:RowOk S id r):r.key<2305843009213693951∧-1<=r.lv∧r.lv<1152921504606846976:=by
 rcases h with h|⟨h1,h2,h⟩
 ·rw [h];simp
 ·obtain ⟨i,rfl⟩:=zA (show id≠0 by omega);have:=lvI_lt hS (x:=S.list[i]) (by simp:S.list[i]?=some S.list[i]);have hl:=hS.len;have hm:=hS.most;rw [h];refine ⟨Tr.key_lt _,this.1,?_⟩;simp only [J9] at this ⊢;omega
theorem V9 (S:Sto) (b:Nat) (i:Nat) (a c:Kr) (ht:S.tr (i+1)=.leaf b):Xc ⟨1,b,0,0,0⟩ a c=yz S (i+1):=by
 unfold yz;rw [ht];rfl
theorem lv_pair (l r k1 k2:Nat) (p q:Option Nat) (x y:Tr) (hne:l≠r↔x≠y):(if l≠r∧0<=lvI p∧0<=lvI q then ((xJ (max (lvI p).toNat (lvI q).toNat) k1 k2:Nat):Int) else -1)=lvI (if x=y then none else match p,q with|some a,some b=>some (xJ (max a b) k1 k2)|_,_=>none):=by
 by_cases h:x=y
 ·rw [if_pos h,if_neg (fun hh=>hne.1 hh.1 h)];rfl
 ·rw [if_neg h];have h':=hne.2 h;cases p with
  |none=>rw [if_neg (by simp [lvI])];rfl
  |some p =>
   cases q with
   |none=>rw [if_neg (by simp [lvI])];rfl
   |some q=>rw [if_pos ⟨h',by simp [lvI],by simp [lvI]⟩];rfl
theorem lv_pow (p:Option Nat):(if 0<=lvI p∧lvI p%2=0 then lvI p+1 else -1)=lvI (match p with|some a=>if a%2=0 then some (a+1) else none|none=>none):=by
 cases p with
 |none=>rw [if_neg (by simp [lvI])];rfl
 |some p =>
  by_cases he:p%2=0
  ·rw [if_pos ⟨by simp [lvI],by simp only [lvI];omega⟩];simp only [if_pos he];simp [lvI]
  ·rw [if_neg (by simp only [lvI];omega)];simp only [if_neg he];rfl
theorem comp_pair (S:Sto) (hS:S.Ok) (l r i:Nat) (y z:En) (hy:S.list[l]?=some y) (hz:S.list[r]?=some z) (ht:S.tr (i+1)=.pair (S.tr (l+1)) (S.tr (r+1))):Xc ⟨2,0,l+1,r+1,0⟩ (yz S (l+1)) (yz S (r+1))=yz S (i+1):=by
 have hne:(l+1≠r+1)↔(S.tr (l+1)≠S.tr (r+1)):=⟨fun h e=>h (by rw [tr_inj hS l r y z hy hz e]),fun h e=>h (by rw [e])⟩
 have e:=lv_pair (l+1) (r+1) (S.tr (l+1)).key (S.tr (r+1)).key (S.tr (l+1)).lev (S.tr (r+1)).lev _ _ hne;have e2:yz S (i+1)=⟨ZM 2 (S.tr (l+1)).key (S.tr (r+1)).key,lvI (if S.tr (l+1)=S.tr (r+1) then none else match (S.tr (l+1)).lev,(S.tr (r+1)).lev with|some a,some b=>some (xJ (max a b) (S.tr (l+1)).key (S.tr (r+1)).key)|_,_=>none),true⟩:=by
  unfold yz;rw [ht];rfl
 rw [e2,← e];rfl
theorem comp_pow (S:Sto) (l k i:Nat) (c:Kr) (ht:S.tr (i+1)=.pow (S.tr (l+1)) k):Xc ⟨3,0,l+1,0,k⟩ (yz S (l+1)) c=yz S (i+1):=by
 have e:=lv_pow (S.tr (l+1)).lev;have e2:yz S (i+1)=⟨ZM 3 (S.tr (l+1)).key k,lvI (match (S.tr (l+1)).lev with|some a=>if a%2=0 then some (a+1) else none|none=>none),true⟩:=by
  unfold yz;rw [ht];rfl
 rw [e2,← e];rfl
end
section
def W2 (m:Nat) (p:List (Tr×Nat)):Prop:=∀ t j p',p=(t,j)::p'->t.lv≠m+1
theorem Ji {a x:Tr} {m:Nat} {p:List (Tr×Nat)} (ga:a.Gd) (hz:Zip a p x) (ha:vp m p) (ht:W2 m p):vp (m+1) p:=by
 cases p with
 |nil=>intro f hf;simp at hf
 |cons f p =>
  obtain ⟨t,j⟩:=f;have h1:=ha (t,j) (by simp);have h2:=ht t j p rfl;have hg:=hz.tail.1.gd ga;intro f hf;rcases zL.1 hf with rfl|hf
  ·simp at h1 ⊢;omega
  ·have:=(hg.2 f hf).1;simp at h1;omega
theorem Jh {a x t:Tr} {m j:Nat} {p:List (Tr×Nat)} (ga:a.Gd) (hz:Zip a ((t,j)::p) x) (ht:t.lv=m+1):vp (m+1) p:=by
 have hg:=hz.tail.1.gd ga;intro f hf;have:=(hg.2 f hf).1;omega
theorem Wk {t:Tr} {m:Nat} (hg:t.Gd) (ht:t.lv=m+1):∀ c∈zR t,c.lv<=m:=fun c hc=>by have:=(hg.kid hc).2;omega
theorem jD {t:Tr} {m:Nat} (hg:t.Gd) (ht:t.lv=m+1):t.lay m=zR t:=by
 rw [x7 (by omega),jU (Wk hg ht)]
section
variable {a x t:Tr} {m j:Nat} {p:List (Tr×Nat)} {L:List Tr}
theorem Jy (hc:Canon a) (h:EdL a m p x L) (ht:W2 m p):EdL a (m+1) p x (qi (m+1) p++[x])∧L=(qi (m+1) p++[x]).flatMap (Tr.lay m)∧a.lay (m+1)=qi (m+1) p++x::tl (m+1) p:=by
 have ha:=Ji hc.gd h.zip h.above ht;refine ⟨⟨h.zip,by have:=h.low;omega,ha,rfl⟩,?_,?_⟩
 ·rw [h.eq,zI,wR,zt,qG h.low];rfl
 ·rw [h.zip.lay ha,qG (by have:=h.low;omega)];simp
theorem Vx (hc:Canon a) (h:EdL a m ((t,j)::p) x L) (ht:t.lv=m+1):a.lay (m+1)=qi (m+1) p++t::tl (m+1) p∧qi m ((t,j)::p)=(qi (m+1) p).flatMap (Tr.lay m)++(zR t).take j∧L=(qi (m+1) p).flatMap (Tr.lay m)++(zR t).take (j+1)∧EdL a (m+1) p t (qi (m+1) p++[t]):=by
 obtain ⟨hz,hx⟩:=h.zip.tail;have ha:=Jh hc.gd h.zip ht;have hg:=(hz.gd hc.gd).1;have e:qi m ((t,j)::p)=(qi (m+1) p).flatMap (Tr.lay m)++(zR t).take j:=by
  rw [wR];simp only [qi];rw [jU fun c hc=>Wk hg ht c (List.mem_of_mem_take hc)]
 refine ⟨?_,e,?_,hz,by omega,ha,rfl⟩
 ·rw [hz.lay ha,qG (by omega)];simp
 ·rw [h.eq,e,zQ];congr 1
  rw [x5,hx];rfl
end
def upT (beh:Bool) (lv:Nat):List (Tr×Nat)×Option Tr->List (Tr×Nat)×Option Tr
 |((t,j)::p,some x)=>if t.lv=lv∧(if beh then j=0 else j+1=(zR t).length) then (p,some t) else ((t,j)::p,some x)
 |d=>d
theorem Q6 {P Q P' Q':List Tr} (h:P++Q=P'++Q'):(∃ U,P'=P++U∧Q=U++Q')∨∃ u U,P=P'++u::U∧Q'=u::U++Q:=by
 rcases List.append_eq_append_iff.1 h with ⟨U,h1,h2⟩|⟨U,h1,h2⟩
 ·exact .inl ⟨U,h1,h2⟩
 ·cases U with
  |nil=>exact .inl ⟨[],by simpa using h1.symm,by simpa using h2.symm⟩
  |cons u U=>exact .inr ⟨u,U,h1,h2⟩
theorem vP {m:Nat} {l:List Tr} (h:∀ t∈l,t.Pow2) (e:l.flatMap (Tr.lay m)=[]):l=[]:=by
 cases l with
 |nil=>rfl
 |cons x l =>
  have:=wS (m:=m) (h x (by simp));have h2:=congrArg ym e;simp only [zt,zi,zC] at h2;omega
theorem WE {m:Nat} {P Q P' Q':List Tr} (hp:∀ t∈P++Q,t.Pow2) (h:P++Q=P'++Q') (e:P.flatMap (Tr.lay m)=P'.flatMap (Tr.lay m)):P=P'∧Q=Q':=by
 rcases Q6 h with ⟨U,h1,h2⟩|⟨u,U,h1,h2⟩
 ·rw [h1,zI] at e;have:=vP (m:=m) (l:=U) (fun t ht=>hp t (by rw [h,h1];simp [ht])) (by simpa using e);subst this;exact ⟨by simpa using h1.symm,by simpa using h2⟩
 ·rw [h1,zI] at e;have:=vP (m:=m) (l:=u::U) (fun t ht=>hp t (by rw [h1];simp at ht ⊢;rcases ht with h|h <;> simp [h])) (by simpa using e);simp at this
theorem Canon.pow2 {a:Tr} (h:Canon a) (m:Nat):∀ t∈a.lay m,t.Pow2:=by rw [← h.seq];exact wM h.leaves _
theorem upL {a:Tr} {m:Nat} (hc:Canon a):∀ {d:List (Tr×Nat)×Option Tr} {P Q:List Tr},a.lay (m+1)=P++Q->EndL a m d (P.flatMap (Tr.lay m))->EndL a (m+1) (upT false (m+1) d) P
 |(p,none),P,Q,hl,h=>by
  obtain ⟨rfl,h2⟩:=h;exact ⟨rfl,vP (fun t ht=>hc.pow2 (m+1) t (by rw [hl];simp [ht])) h2⟩
 |([],some x),P,Q,hl,h=>by
  obtain ⟨h1,h2,h3⟩:=Jy hc h (fun _ _ _ e=>by cases e);have h3':a.lay (m+1)=(qi (m+1) []++[x])++tl (m+1) []:=(by rw [h3];simp);have:=(WE (m:=m) (by rw [← hl];exact hc.pow2 _) (hl.symm.trans h3') h2).1;rw [this];exact h1
 |((t,j)::p,some x),P,Q,hl,h=>by
  unfold upT;by_cases ht:t.lv=m+1
  ·obtain ⟨h1,_,h3,h4⟩:=Vx hc h ht;have hx:=yE h.zip.tail.2;have hg:=(h.zip.tail.1.gd hc.gd).1;have hk:=jD hg ht;by_cases hj:j+1=(zR t).length
   ·simp only [ht,hj,xA,if_false,and_self,if_true];have h1':a.lay (m+1)=(qi (m+1) p++[t])++tl (m+1) p:=(by rw [h1];simp);have:=(WE (m:=m) (by rw [← hl];exact hc.pow2 _) (hl.symm.trans h1') (by rw [h3,zI,zt,hk,hj,jx];simp)).1;rw [this];exact h4
   ·exfalso;have h5:=congrArg ym h3;simp only [zi,qg] at h5;rcases Q6 (hl.symm.trans h1) with ⟨U,e1,e2⟩|⟨u,U,e1,e2⟩
    ·rw [e1,zI,zi] at h5;omega
    ·simp only [zo,Zq.injEq] at e2;rw [e1,← e2.1,zI,zt,zi,zi,hk] at h5;omega
  ·simp only [ht,false_and,if_false];obtain ⟨h1,h2,h3⟩:=Jy hc h (fun t' j' p' e=>by cases e;exact ht);have h3':a.lay (m+1)=(qi (m+1) ((t,j)::p)++[x])++tl (m+1) ((t,j)::p):=(by rw [h3];simp);have:=(WE (m:=m) (by rw [← hl];exact hc.pow2 _) (hl.symm.trans h3') h2).1;rw [this];exact h1
section
variable {a x t:Tr} {m j:Nat} {p:List (Tr×Nat)} {R:List Tr}
theorem WL (hc:Canon a) (h:EdR a m p x R) (ht:W2 m p):EdR a (m+1) p x (x::tl (m+1) p)∧R=(x::tl (m+1) p).flatMap (Tr.lay m)∧tl m p=(tl (m+1) p).flatMap (Tr.lay m)∧a.lay (m+1)=qi (m+1) p++x::tl (m+1) p:=by
 have ha:=Ji hc.gd h.zip h.above ht;refine ⟨⟨h.zip,by have:=h.low;omega,ha,rfl⟩,?_,(Yd p).symm,?_⟩
 ·rw [h.eq,zt,Yd,qG h.low];rfl
 ·rw [h.zip.lay ha,qG (by have:=h.low;omega)];simp
theorem WM (hc:Canon a) (h:EdR a m ((t,j)::p) x R) (ht:t.lv=m+1):a.lay (m+1)=qi (m+1) p++t::tl (m+1) p∧tl m ((t,j)::p)=(zR t).drop (j+1)++(tl (m+1) p).flatMap (Tr.lay m)∧R=(zR t).drop j++(tl (m+1) p).flatMap (Tr.lay m)∧EdR a (m+1) p t (t::tl (m+1) p):=by
 obtain ⟨hz,hx⟩:=h.zip.tail;have ha:=Jh hc.gd h.zip ht;have hg:=(hz.gd hc.gd).1;have e:tl m ((t,j)::p)=(zR t).drop (j+1)++(tl (m+1) p).flatMap (Tr.lay m):=by
  rw [Yd];simp only [tl];rw [jU fun c hc=>Wk hg ht c (List.mem_of_mem_drop hc)]
 refine ⟨?_,e,?_,hz,by omega,ha,rfl⟩
 ·rw [hz.lay ha,qG (by omega)];simp
 ·have hlt:=yE hx;rw [h.eq,e,yj hlt];rw [zg hlt] at hx;injection hx with hx
  rw [hx];rfl
end
theorem WV {m:Nat} {P Q P' Q':List Tr} (hp:∀ t∈P++Q,t.Pow2) (h:P++Q=P'++Q') (e:Q.flatMap (Tr.lay m)=Q'.flatMap (Tr.lay m)):P=P'∧Q=Q':=by
 rcases Q6 h with ⟨U,h1,h2⟩|⟨u,U,h1,h2⟩
 ·rw [h2,zI] at e;have:=vP (m:=m) (l:=U) (fun t ht=>hp t (by rw [h2];simp [ht])) (by simpa using e);subst this;exact ⟨by simpa using h1.symm,by simpa using h2⟩
 ·rw [h2,zI] at e;have:=vP (m:=m) (l:=u::U) (fun t ht=>hp t (by rw [h1];simp at ht ⊢;rcases ht with h|h <;> simp [h])) (by
   have e':=congrArg ym e;simp only [zi] at e';exact qe (by omega))
  simp at this
theorem upR {a:Tr} {m:Nat} (hc:Canon a):∀ {d:List (Tr×Nat)×Option Tr} {P Q:List Tr},a.lay (m+1)=P++Q->EndR a m d (Q.flatMap (Tr.lay m))->EndR a (m+1) (upT true (m+1) d) Q
 |(p,none),P,Q,hl,h=>by
  obtain ⟨rfl,h2⟩:=h;exact ⟨rfl,vP (fun t ht=>hc.pow2 (m+1) t (by rw [hl];simp [ht])) h2⟩
 |([],some x),P,Q,hl,h=>by
  obtain ⟨h1,h2,_,h3⟩:=WL hc h (fun _ _ _ e=>by cases e);have:=(WV (m:=m) (by rw [← hl];exact hc.pow2 _) (hl.symm.trans h3) h2).2;rw [this];exact h1
 |((t,j)::p,some x),P,Q,hl,h=>by
  unfold upT;by_cases ht:t.lv=m+1
  ·obtain ⟨h1,_,h3,h4⟩:=WM hc h ht;have hx:=yE h.zip.tail.2;have hg:=(h.zip.tail.1.gd hc.gd).1;have hk:=jD hg ht;by_cases hj:j=0
   ·simp only [ht,hj,if_true,and_self];have:=(WV (m:=m) (by rw [← hl];exact hc.pow2 _) (hl.symm.trans h1) (by rw [h3,zt,hk,hj,yw])).2;rw [this];exact h4
   ·exfalso;have h5:=congrArg ym h3;simp only [zi,qC] at h5;rcases Q6 (hl.symm.trans h1) with ⟨U,e1,e2⟩|⟨u,U,e1,e2⟩
    ·rw [e2,zI,zt,zi,zi,hk] at h5;omega
    ·simp only [zo,Zq.injEq] at e2;rw [e2.2,zI,zi] at h5;omega
  ·simp only [ht,false_and,if_false];obtain ⟨h1,h2,_,h3⟩:=WL hc h (fun t' j' p' e=>by cases e;exact ht);have:=(WV (m:=m) (by rw [← hl];exact hc.pow2 _) (hl.symm.trans h3) h2).2;rw [this];exact h1
theorem jl {t:Tr} {m:Nat} (hg:t.Gd) (ht:t.lv=m+1) (ho:m%2=1):∃ u v,t=.pair u v∧fits (m+1) u v=true:=by
 obtain ⟨⟨a,ha⟩,hp⟩:=hg;rw [wv ha] at ht;subst ht;cases t with
 |leaf b=>simp [Tr.lev] at ha
 |pow s k=>obtain ⟨b,_,h1,h2⟩:=jq ha;omega
 |pair u v =>
  obtain ⟨_,b,c,_,_,h1,_⟩:=wT ha;refine ⟨u,v,rfl,?_⟩;have:=(vv (Tr.key_lt u) (Tr.key_lt v) (max b c)).2.2.2.1;rw [← h1] at this;exact this
theorem KD {t:Tr} {m:Nat} (hg:t.Gd) (ht:t.lv=m+1) (he:m%2=0):∃ s k,t=.pow s k∧2<=k:=by
 obtain ⟨⟨a,ha⟩,hp⟩:=hg;rw [wv ha] at ht;subst ht;cases t with
 |leaf b=>simp [Tr.lev] at ha
 |pow s k=>exact ⟨s,k,rfl,hp.2⟩
 |pair u v =>
  obtain ⟨_,b,c,_,_,_,_,_,h1⟩:=wT ha;omega
section
variable {a x t:Tr} {m j:Nat} {p:List (Tr×Nat)} {L:List Tr}
theorem glKeepN (ho:m%2=1) (hc:Canon a) (h:EdL a m p x L) (ht:W2 m p) (X:List Tr) (hX:∀ y,X.head?=some y->fits (m+1) x y=false):∃ P Q,a.lay (m+1)=P++Q∧L=P.flatMap (Tr.lay m)∧zH (fits (m+1)) (L++X)=P++zH (fits (m+1)) X:=by
 obtain ⟨_,h2,h3⟩:=Jy hc h ht;have h3':a.lay (m+1)=(qi (m+1) p++[x])++tl (m+1) p:=(by rw [h3];simp);refine ⟨_,_,h3',h2,?_⟩;rw [h2];refine (ji ho hc h3').2.2 X fun u y hu _ hy=>?_
 rw [xu] at hu;simp at hu;subst hu;exact hX y hy
theorem glKeepT (ho:m%2=1) (hc:Canon a) (h:EdL a m ((t,j)::p) x L) (ht:t.lv=m+1) (hj:j≠0) (X:List Tr):∃ P Q,a.lay (m+1)=P++Q∧L=P.flatMap (Tr.lay m)∧zH (fits (m+1)) (L++X)=P++zH (fits (m+1)) X:=by
 obtain ⟨h1,_,h3,_⟩:=Vx hc h ht;have hg:=(h.zip.tail.1.gd hc.gd).1;have hx:=yE h.zip.tail.2;obtain ⟨u,v,rfl,_⟩:=jl hg ht ho;simp only [zR,zw,zC] at hx;obtain rfl:j=1:=by omega
 have h1':a.lay (m+1)=(qi (m+1) p++[Tr.pair u v])++tl (m+1) p:=(by rw [h1];simp);have h4:L=(qi (m+1) p++[Tr.pair u v]).flatMap (Tr.lay m):=by
  rw [h3,zI,zt,jD hg ht];simp [zR]
 refine ⟨_,_,h1',h4,?_⟩;rw [h4];refine (ji ho hc h1').2.2 X fun w y hw hl hy=>?_
 rw [xu] at hw;simp at hw;subst hw;omega
theorem glMoveN (ho:m%2=1) (hc:Canon a) (h:EdL a m p x L) (ht:W2 m p) (X:List Tr):∃ P Q,a.lay (m+1)=P++Q∧qi m p=P.flatMap (Tr.lay m)∧L=qi m p++[x]∧zH (fits (m+1)) (qi m p++x::X)=P++zH (fits (m+1)) (x::X):=by
 obtain ⟨_,h2,h3⟩:=Jy hc h ht;have hcut:=ji ho hc h3;refine ⟨_,_,h3,(wR p).symm,h.eq,?_⟩;rw [← wR];refine hcut.2.2 (x::X) fun u y hu hl hy=>?_
 simp at hy;subst hy;exact hcut.2.1 u x hu hl (by rw [zt,qG h.low];rfl)
theorem glMoveT (ho:m%2=1) (hc:Canon a) (h:EdL a m ((t,0)::p) x L) (ht:t.lv=m+1) (X:List Tr):∃ P Q,a.lay (m+1)=P++Q∧qi m ((t,0)::p)=P.flatMap (Tr.lay m)∧L=qi m ((t,0)::p)++[x]∧zH (fits (m+1)) (qi m ((t,0)::p)++x::X)=P++zH (fits (m+1)) (x::X):=by
 obtain ⟨h1,h2,h3,_⟩:=Vx hc h ht;have hg:=(h.zip.tail.1.gd hc.gd).1;have hx:=h.zip.tail.2;have hcut:=ji ho hc h1;rw [jA,qO] at h2;refine ⟨_,_,h1,h2,h.eq,?_⟩;rw [h2];refine hcut.2.2 (x::X) fun u y hu hl hy=>?_
 simp at hy;subst hy;refine hcut.2.1 u x hu hl ?_;rw [zt,jD hg ht];cases hk:zR t with
 |nil=>rw [hk] at hx;simp at hx
 |cons c l=>rw [hk] at hx;simpa using hx
end
def yQ (lv:Nat):Bool:=decide (2<=lv∧lv%2=0∧(lv/2-1)%123=122)
theorem Xe {lv:Nat} (h:yQ lv=false) {x y:Tr} (hf:fits lv x y=true) (z:Tr):fits lv y z=false∧fits lv z x=false:=by
 unfold fits yt at hf ⊢;unfold yQ at h;split at hf
 ·cases hf
 ·rename_i h1;have h2:¬ (lv/2-1)%123=122:=fun e=>by simp [e] at h;omega
  rw [if_neg h2] at hf;simp only [if_neg h1,if_neg h2];simp only [zu,decide_eq_true_eq] at hf;simp;omega
theorem kT {lv:Nat} (h:yQ lv=true) (x y:Tr):fits lv x y=decide (x.key=y.key):=by
 unfold yQ at h;simp only [decide_eq_true_eq] at h;unfold fits yt;rw [if_neg (by omega),if_pos h.2.2]
theorem Ku {a:Tr} {m:Nat} (ho:m%2=1) (hc:Canon a) {P Q:List Tr} (e:a.lay (m+1)=P++Q) (M:List Tr) (hM:∀ z y,M.getLast?=some z->(Q.flatMap (Tr.lay m)).head?=some y->fits (m+1) z y=false) :
  zH (fits (m+1)) (M++Q.flatMap (Tr.lay m))=zH (fits (m+1)) M++Q:=by
 rw [wU _ hM,(ji ho hc e).1]
section
variable {a x t:Tr} {m j:Nat} {p:List (Tr×Nat)} {R:List Tr}
theorem grMoveN (ho:m%2=1) (hc:Canon a) (h:EdR a m p x R) (ht:W2 m p):∃ P Q,a.lay (m+1)=P++Q∧tl m p=Q.flatMap (Tr.lay m)∧∀ y,(tl m p).head?=some y->fits (m+1) x y=false:=by
 obtain ⟨_,_,h2,h3⟩:=WL hc h ht;have h3':a.lay (m+1)=(qi (m+1) p++[x])++tl (m+1) p:=(by rw [h3];simp);refine ⟨_,_,h3',h2,fun y hy=>?_⟩;rw [h2] at hy;exact (ji ho hc h3').2.1 x y (by rw [xu];simp) h.low hy
theorem grMoveT (ho:m%2=1) (hc:Canon a) (h:EdR a m ((t,j)::p) x R) (ht:t.lv=m+1) (hj:j≠0):∃ P Q,a.lay (m+1)=P++Q∧tl m ((t,j)::p)=Q.flatMap (Tr.lay m)∧∃ u,t=.pair u x∧fits (m+1) u x=true:=by
 obtain ⟨h1,h2,h3,_⟩:=WM hc h ht;have hg:=(h.zip.tail.1.gd hc.gd).1;have hx:=h.zip.tail.2;have hlt:=yE hx;obtain ⟨u,v,rfl,hf⟩:=jl hg ht ho;simp only [zR,zw,zC] at hlt;obtain rfl:j=1:=by omega
 obtain rfl:v=x:=by simpa [zR] using hx
 have h1':a.lay (m+1)=(qi (m+1) p++[Tr.pair u v])++tl (m+1) p:=(by rw [h1];simp);exact ⟨_,_,h1',by rw [h2];simp [zR],u,rfl,hf⟩
theorem Kp (hc:Canon a) (h:EdR a m p x R) (ht:W2 m p):∃ P Q,a.lay (m+1)=P++Q∧R=Q.flatMap (Tr.lay m):=by
 obtain ⟨_,h2,_,h3⟩:=WL hc h ht;exact ⟨_,_,h3,h2⟩
theorem Kq (hc:Canon a) (h:EdR a m ((t,0)::p) x R) (ht:t.lv=m+1):∃ P Q,a.lay (m+1)=P++Q∧R=Q.flatMap (Tr.lay m):=by
 obtain ⟨h1,h2,h3,_⟩:=WM hc h ht;have hg:=(h.zip.tail.1.gd hc.gd).1;exact ⟨_,_,h1,by rw [h3,zt,jD hg ht];simp⟩
theorem grPair (ho:m%2=1) (hc:Canon a) (h:EdR a m ((t,0)::p) x R) (ht:t.lv=m+1):∃ P Q v,a.lay (m+1)=P++t::Q∧t=.pair x v∧fits (m+1) x v=true∧tl m p=Q.flatMap (Tr.lay m)∧Q=tl (m+1) p∧R=x::v::tl m p:=by
 obtain ⟨h1,h2,h3,_⟩:=WM hc h ht;have hg:=(h.zip.tail.1.gd hc.gd).1;have hx:=h.zip.tail.2;obtain ⟨u,v,rfl,hf⟩:=jl hg ht ho;obtain rfl:u=x:=by simpa [zR] using hx
 exact ⟨_,_,v,h1,rfl,hf,(Yd p).symm,rfl,by rw [h3,Yd];simp [zR]⟩
end
section
variable {a x t:Tr} {m j k:Nat} {p:List (Tr×Nat)} {L R:List Tr}
theorem rlKeep (he:m%2=0) (hc:Canon a) {P Q:List Tr} (e:a.lay (m+1)=P++Q) (X:List Tr) (hX:∀ z y,(P.flatMap (Tr.lay m)).getLast?=some z->X.head?=some y->z≠y):runs (P.flatMap (Tr.lay m)++X)=P++runs X :=
 (kg he hc e).2.2 X hX
theorem rlMoveN (he:m%2=0) (hc:Canon a) (h:EdL a m p x L) (ht:W2 m p) (X:List Tr):∃ P Q,a.lay (m+1)=P++Q∧qi m p=P.flatMap (Tr.lay m)∧L=qi m p++[x]∧runs (qi m p++x::X)=P++runs (x::X):=by
 obtain ⟨_,h2,h3⟩:=Jy hc h ht;have hcut:=kg he hc h3;refine ⟨_,_,h3,(wR p).symm,h.eq,?_⟩;rw [← wR];refine hcut.2.2 (x::X) fun u y hu hy=>?_
 simp at hy;subst hy;exact hcut.2.1 u x hu (by rw [zt,qG h.low];rfl)
theorem rlMoveT (he:m%2=0) (hc:Canon a) (h:EdL a m ((t,j)::p) x L) (ht:t.lv=m+1) (X:List Tr):∃ P Q k,t=.pow x k∧a.lay (m+1)=P++Q∧qi m p=P.flatMap (Tr.lay m)∧L=qi m p++zd (j+1) x∧runs (qi m p++(zd (j+1) x++X))=P++runs (zd (j+1) x++X):=by
 obtain ⟨h1,h2,h3,_⟩:=Vx hc h ht;have hg:=(h.zip.tail.1.gd hc.gd).1;have hx:=h.zip.tail.2;have hlt:=yE hx;obtain ⟨s,k,rfl,hk⟩:=KD hg ht he;have:s=x:=(xy (zy hx)).symm;subst this;simp only [zR,qr] at hlt;have hcut:=kg he hc h1;refine ⟨_,_,k,rfl,h1,(wR p).symm,?_,?_⟩
 ·rw [h3,wR,zR,List.take_replicate,kF (by omega)]
 ·rw [← wR];refine hcut.2.2 _ fun u y hu hy=>?_
  simp [zS] at hy;subst hy;refine hcut.2.1 u s hu ?_;rw [zt,jD hg ht,zR];obtain ⟨k,rfl⟩:=zA (show k≠0 by omega);simp [zS]
theorem rlWholeT (hc:Canon a) (h:EdL a m ((t,j)::p) x L) (ht:t.lv=m+1) (hj:j+1=(zR t).length):∃ P Q,a.lay (m+1)=P++Q∧L=P.flatMap (Tr.lay m):=by
 obtain ⟨h1,h2,h3,_⟩:=Vx hc h ht;have hg:=(h.zip.tail.1.gd hc.gd).1;have h1':a.lay (m+1)=(qi (m+1) p++[t])++tl (m+1) p:=(by rw [h1];simp);exact ⟨_,_,h1',by rw [h3,zI,zt,jD hg ht,hj,jx];simp⟩
theorem rlWholeN (hc:Canon a) (h:EdL a m p x L) (ht:W2 m p):∃ P Q,a.lay (m+1)=P++Q∧L=P.flatMap (Tr.lay m):=by
 obtain ⟨_,h2,h3⟩:=Jy hc h ht;exact ⟨qi (m+1) p++[x],tl (m+1) p,by rw [h3];simp,h2⟩
theorem rrMoveN (he:m%2=0) (hc:Canon a) (h:EdR a m p x R) (ht:W2 m p):∃ P Q,a.lay (m+1)=P++Q∧tl m p=Q.flatMap (Tr.lay m)∧∀ y,(tl m p).head?=some y->x≠y:=by
 obtain ⟨_,_,h2,h3⟩:=WL hc h ht;have h3':a.lay (m+1)=(qi (m+1) p++[x])++tl (m+1) p:=(by rw [h3];simp);refine ⟨_,_,h3',h2,fun y hy=>?_⟩;rw [h2] at hy;exact (kg he hc h3').2.1 x y (by rw [zI,xu,zt,qG h.low];simp) hy
theorem rrMoveT (he:m%2=0) (hc:Canon a) (h:EdR a m ((t,j)::p) x R) (ht:t.lv=m+1):∃ P Q k,t=.pow x k∧j<k∧a.lay (m+1)=P++Q∧tl m p=Q.flatMap (Tr.lay m)∧R=zd (k-j) x++tl m p∧∀ y,(tl m p).head?=some y->x≠y:=by
 obtain ⟨h1,h2,h3,_⟩:=WM hc h ht;have hg:=(h.zip.tail.1.gd hc.gd).1;have hx:=h.zip.tail.2;have hlt:=yE hx;obtain ⟨s,k,rfl,hk⟩:=KD hg ht he;have:s=x:=(xy (zy hx)).symm;subst this;simp only [zR,qr] at hlt;have h1':a.lay (m+1)=(qi (m+1) p++[Tr.pow s k])++tl (m+1) p:=(by rw [h1];simp);refine ⟨_,_,k,rfl,hlt,h1',(Yd p).symm,by rw [h3,Yd,zR,List.drop_replicate],fun y hy=>?_⟩;rw [← Yd] at hy;refine (kg he hc h1').2.1 s y ?_ hy;rw [zI,xu,zt,jD hg ht,zR];obtain ⟨k,rfl⟩:=zA (show k≠0 by omega);simp [xG]
theorem rr_cut (he:m%2=0) (hc:Canon a) {P Q:List Tr} (e:a.lay (m+1)=P++Q) (M:List Tr) (hM:∀ z y,M.getLast?=some z->(Q.flatMap (Tr.lay m)).head?=some y->z≠y) :
  runs (M++Q.flatMap (Tr.lay m))=runs M++Q:=by
 rw [ZS hM,(kg he hc e).1]
end
end
section
structure It where
 x:Tr
 nx:Option Tr
 n:Nat
def It.exp (i:It):List Tr:=match i.nx with|none=>zd i.n i.x|some y=>(zd i.n [i.x,y]).flatten
def zT (l:List It):List Tr:=l.flatMap It.exp
theorem xw (a b:List It):zT (a++b)=zT a++zT b:=by simp [zT]
theorem qn (a:It) (b:List It):zT (a::b)=a.exp++zT b:=by simp [zT]
theorem qH:zT []=[]:=rfl
def Sg (l:List It):Prop:=∀ i∈l,i.nx=none∧1<=i.n
def One (l:List It):Prop:=∀ i∈l,i.nx=none∧i.n=1
theorem One.sg {l:List It} (h:One l):Sg l:=fun i hi=>by have:=h i hi;exact ⟨this.1,by omega⟩
theorem One.exp:∀ {l:List It},One l->zT l=l.map (·.x)
 |[],_=>rfl
 |i::l,h=>by
  have h1:=h i (by simp);rw [qn,One.exp (l:=l) fun j hj=>h j (by simp [hj])];simp [It.exp,h1.1,h1.2]
def qx (l:List It) (i:It):List It :=
 match l.getLast? with
 |some j=>if j.x=i.x then l.dropLast++[⟨j.x,j.nx,j.n+i.n⟩] else l++[i]
 |none=>l++[i]
theorem YH (i:It):qx [] i=[i]:=rfl
theorem QC (l:List It) (j i:It):qx (l++[j]) i=if j.x=i.x then l++[⟨j.x,j.nx,j.n+i.n⟩] else l++[j]++[i]:=by
 simp [qx]
theorem yn {α:Type} (l:List α):l=[]∨∃ a x,l=a++[x]:=by
 rcases List.eq_nil_or_concat l with h|⟨a,x,h⟩
 ·exact .inl h
 ·exact .inr ⟨a,x,by rw [h];simp⟩
theorem wV {l:List It} {i:It} (h:Sg l) (hi:i.nx=none∧1<=i.n):Sg (qx l i)∧zT (qx l i)=zT l++i.exp:=by
 rcases yn l with rfl|⟨a,j,rfl⟩
 ·exact ⟨fun k hk=>by simp [YH] at hk;subst hk;exact hi,by simp [YH,zT]⟩
 ·rw [QC];have hj:=h j (by simp);split
  ·rename_i e;refine ⟨fun k hk=>?_,?_⟩
   ·rcases zl.1 hk with hk|hk
    ·exact h k (by simp [hk])
    ·simp at hk;subst hk;exact ⟨hj.1,by simp;omega⟩
   ·rw [xw,xw,zQ];congr 1
    simp only [qn,qH,qO,It.exp,hj.1,hi.1];rw [e,List.replicate_append_replicate]
  ·refine ⟨fun k hk=>?_,?_⟩
   ·rcases zl.1 hk with hk|hk
    ·exact h k hk
    ·simp at hk;subst hk;exact hi
   ·rw [xw];simp [qn,qH]
def ApI (l:List It):Prop:=ChG (fun p q=>p.1≠q.1) (l.map fun i=>(i.x,i.n))
theorem V8 {R:Tr×Nat->Tr×Nat->Prop}:∀ {l:List (Tr×Nat)} {q:Tr×Nat},ChG R l->(∀ p,l.getLast?=some p->R p q)->ChG R (l++[q])
 |[],_,_,_=>trivial
 |[x],q,_,h=>⟨h x rfl,trivial⟩
 |x::y::l,q,hc,h=>⟨hc.1,V8 (l:=y::l) hc.2 fun p hp=>h p (by simpa using hp)⟩
theorem V6 {R:Tr×Nat->Tr×Nat->Prop} (hR:∀ p q q':Tr×Nat,q.1=q'.1->R p q->R p q'):∀ {l:List (Tr×Nat)} {q q':Tr×Nat},q.1=q'.1->ChG R (l++[q])->ChG R (l++[q'])
 |[],_,_,_,_=>trivial
 |[x],q,q',e,h=>⟨hR x q q' e h.1,trivial⟩
 |x::y::l,q,q',e,h=>⟨h.1,V6 hR (l:=y::l) e h.2⟩
theorem push_ap {l:List It} {i:It} (h:ApI l):ApI (qx l i):=by
 rcases yn l with rfl|⟨a,j,rfl⟩
 ·trivial
 ·rw [QC];unfold ApI at h ⊢;split
  ·simp only [xH,zX,ye] at h ⊢;exact V6 (q:=(j.x,j.n)) (fun p q q' e hn=>by rw [← e];exact hn) rfl h
  ·rename_i hne;rw [xH];refine V8 h fun p hp=>?_
   simp at hp;subst hp;exact hne
theorem groups_exp:∀ {l:List It},Sg l->ApI l->qU (zT l)=l.map fun i=>(i.x,i.n):=by
 intro l h ha;have e:zT l=(l.map fun i=>(i.x,i.n)).flatMap fun p=>zd p.2 p.1:=by
  clear ha;induction l with
  |nil=>rfl
  |cons i l ih =>
   have hi:=h i (by simp);rw [qn,ih fun j hj=>h j (by simp [hj])];simp [It.exp,hi.1]
 rw [e];refine kH (fun p hp=>?_) ha;obtain ⟨i,hi,rfl⟩:=qY.1 hp;exact (h i hi).2
def Y4 (i:It):It:=if i.n=1 then i else ⟨.pow i.x i.n,none,1⟩
theorem VJ {l:List It} (h:Sg l):One (l.map Y4):=by
 intro i hi;obtain ⟨j,hj,rfl⟩:=qY.1 hi;have:=h j hj;unfold Y4;split
 ·exact ⟨this.1,by assumption⟩
 ·exact ⟨rfl,rfl⟩
theorem runs_exp {l:List It} (h:Sg l) (ha:ApI l):zT (l.map Y4)=runs (zT l):=by
 rw [(VJ h).exp];unfold runs;rw [groups_exp h ha,Zt,Zt];congr 1
 funext i
 simp only [Function.comp,Y4,jb];split <;> rfl
theorem Q4 (f:Tr->Tr->Bool) (x y:Tr) (Y:List Tr) (h:f x y=true):zH f (x::y::Y)=.pair x y::zH f Y:=by simp [zH,h]
theorem WB (f:Tr->Tr->Bool) (x:Tr) (Y:List Tr) (h:∀ y,Y.head?=some y->f x y=false):zH f (x::Y)=x::zH f Y:=by
 have:=wU f (a:=[x]) (b:=Y) fun u y hu hy=>by
  simp at hu;subst hu;exact h y hy
 simpa [zH] using this
theorem QB (f:Tr->Tr->Bool) (x y:Tr) (h:f x y=true) (Y:List Tr):∀ n,zH f ((zd n [x,y]).flatten++Y)=zd n (.pair x y)++zH f Y
 |0=>by simp
 |n+1=>by
  simp only [zS,List.flatten_cons,zo,zv];rw [Q4 f x y _ h,QB f x y h Y n]
theorem J0 (x y:Tr):∀ n,x::(zd n [y,x]).flatten=(zd n [x,y]).flatten++[x]
 |0=>by simp
 |n+1=>by
  simp only [zS,List.flatten_cons,zo,zv];rw [J0 x y n]
end
section
open Go.RowKit Go.Maps
attribute [local go_sem] qt
def RRel (S:Sto) (K:Kt) (M:List Nat) (w:World) (id n:Nat) (rv:Value) (bt:Nat) (k:Nat) (v6:Value) (wr:World):Prop :=
 ∃ (rows:List Kr) (stk:List Nat),rows.length=n∧Rows S rows∧KStk rows id stk∧unk rows*(n+1)+(n-stk.length)=k∧((∃ r,rows[id]?=some r∧r.known=true)∨id∈stk)∧St w M [zc qE 26 1 v6 stk,blk K.t (.cells #[.pointer (some ⟨K.s,0,none⟩),rv] 211),zc xS 214 3 rv rows,blk bt (.cells #[.int .u64 0,.int .i64 0,.bool false] 214)] wr
abbrev RowPost (S:Sto) (K:Kt) (id:Nat) (M:List Nat) (w:World) (e:Ending) (w':World):Prop :=
 ∃ K':Kt,K'.t=K.t∧K'.s=K.s∧KtOk S K'∧e=.returned (.tuple #[.agg #[.int .u64 (S.tr id).key,.int .i64 (lvI (S.tr id).lev),.bool true],.nilIface])∧St w M [ktA K'] w'
theorem St.only4 {w0 w:World} {M:List Nat} {L R1 R2 R3 R4:List As} {A B C D:As} (h:St w0 M L w) (h1:Pick L A R1) (h2:Pick R1 B R2) (h3:Pick R2 C R3) (h4:Pick R3 D R4):St w0 M [A,B,C,D] w:=by
 have h':=h.perm (h1.perm.trans ((h2.perm.trans ((h3.perm.trans (h4.perm.cons _)).cons _)).cons _));have k4:∀ {X:List As},St w0 M (A::B::C::D::X) w->St w0 M [A,B,C,D] w:=fun h=>⟨h.os,h.tape,h.output,h.size,h.keep,fun Z hZ=>h.ho Z (by simp at hZ ⊢;rcases hZ with rfl|rfl|rfl|rfl <;> simp),fun Z hZ=>h.own Z (by simp at hZ ⊢;rcases hZ with rfl|rfl|rfl|rfl <;> simp),h.dis.sublist (by simp)⟩
 exact k4 h'
structure RuleAt (S:Sto) (rows:List Kr) (x:Nat) (kd lt il ir tm:Nat) (rl rr:Kr):Prop where
 hkd:kd=1∨kd=2∨kd=3
 hlt:lt<256
 htm:tm<9223372036854775808
 hil:il<x
 hir:ir<x
 hl:rows[il]?=some rl
 hr:rows[ir]?=some rr
 hbl:rl.key<2305843009213693951∧-1<=rl.lv∧rl.lv<1152921504606846976
 hbr:rr.key<2305843009213693951∧-1<=rr.lv∧rr.lv<1152921504606846976
 shape:(il=0∧ir=0)∨(il≠0∧ir≠0)∨(il≠0∧ir=0)
 comp:(il=0∨rl.known=true)->(ir=0∨rr.known=true)->Xc ⟨kd,lt,il,ir,tm⟩ rl rr=yz S x
 rule:∃ y,S.list[x-1]?=some y∧y.r=⟨kd,lt,il,ir,tm⟩
theorem rule_at {S:Sto} (hS:S.Ok) {rows:List Kr} (hR:Rows S rows) {x:Nat} (h1:1<=x) (hx:x<rows.length) (hl:rows.length<=S.list.length+1):∃ kd lt il ir tm rl rr,RuleAt S rows x kd lt il ir tm rl rr:=by
 obtain ⟨i,rfl⟩:=zA (show x≠0 by omega);simp only [J9] at *;obtain ⟨y,hy⟩:∃ y,S.list[i]?=some y:=⟨_,zg (by omega)⟩
 have get:∀ j,j<rows.length->∃ r,rows[j]?=some r:=fun j hj=>⟨_,zg hj⟩
 have hml:=hS.len;have hmm:=hS.most;cases xh hS hy with
 |letter b hb hr hw ht =>
  obtain ⟨r0,h0⟩:=get 0 (by omega);have hb0:=(hR 0 r0 h0).bounds hS;exact ⟨1,b,0,0,0,r0,r0,.inl rfl,hb,by omega,by omega,by omega,h0,h0,hb0,hb0,.inl ⟨rfl,rfl⟩,fun _ _=>V9 S b i r0 r0 ht,y,hy,hr⟩
 |pair l r u v hl' hr' hu hv he hw hs ht =>
  obtain ⟨rl,h2⟩:=get (l+1) (by omega);obtain ⟨rr,h3⟩:=get (r+1) (by omega);refine ⟨2,0,l+1,r+1,0,rl,rr,.inr (.inl rfl),by omega,by omega,by omega,by omega,h2,h3,(hR _ rl h2).bounds hS,(hR _ rr h3).bounds hS,.inr (.inl ⟨by omega,by omega⟩),fun k1 k2=>?_,y,hy,he⟩;have e1:rl=yz S (l+1):=(hR _ rl h2).eq (by rcases k1 with h|h;omega;exact h);have e2:rr=yz S (r+1):=(hR _ rr h3).eq (by rcases k2 with h|h;omega;exact h);rw [e1,e2];exact comp_pair S hS l r i u v hu hv ht
 |pow l k u hl' hu hk he hw hs ht =>
  obtain ⟨rl,h2⟩:=get (l+1) (by omega);obtain ⟨r0,h0⟩:=get 0 (by omega);have hkm:k<=1152921504606846976:=by
   have hp:=(hS.good l u hu).pos;have:=wY k hp;rw [KA] at hs;omega
  refine ⟨3,0,l+1,0,k,rl,r0,.inr (.inr rfl),by omega,by omega,by omega,by omega,h2,h0,(hR _ rl h2).bounds hS,(hR _ r0 h0).bounds hS,.inr (.inr ⟨by omega,rfl⟩),fun k1 _=>?_,y,hy,he⟩;have e1:rl=yz S (l+1):=(hR _ rl h2).eq (by rcases k1 with h|h;omega;exact h);rw [e1];exact comp_pow S l k i r0 ht
theorem zero_rows {S:Sto} {rows:List Kr} (h:Rows S rows) (d:Nat):Rows S (rows++zd d ⟨0,0,false⟩):=fun i r hr=>by
 rw [yS] at hr;split at hr
 ·exact h i r hr
 ·exact .inl (xy (zy hr))
attribute [local go_sem] StStep jw yM in
theorem row_c {S:Sto} {K:Kt} {lv:Value} {m id:Nat} (hS:S.Ok) (hK:KtOk S K) (h1:1<=id) (h2:id<=S.list.length) (w:World) (h:((ktA K).sep ((qF K.s lv m S).sep deA)).ho w) :
  Calls zb 124 #[.pointer (some ⟨K.t,0,none⟩),.int .i64 id] w (RowPost S K id (ktA K).fp w):=by
 rw [qz] at h;obtain ⟨k1,k2,hd⟩:=h;have H:=St.one k1;have HK:Ks w (ktA K).fp [(qF K.s lv m S).sep deA]:=⟨by simpa using k2,by simpa using fun b hb hm=>hd b hm hb⟩
 replace HK:=HK.sep;replace H:=ktA_open H;generalize (ktA K).fp=M at *;have HSO:=zh hS;have hml:=hS.len;have hmm:=hS.most;have hkl:=hK.len;have hg1:decide ((id:Int)<1)=false:=(by simp;omega);have hg2:decide ((S.list.length:Int)<(id:Int))=false:=(by simp;omega);have HKR:=zh (za hK (za h1 h2));by_cases hin:id<K.rows.length
 case' neg =>
  obtain ⟨ad0,c0,hrv,hm0⟩:=zE (H.get (A:=zc xS 214 3 K.rv K.rows) pk);rw [hrv] at H;have hle:decide ((K.rows.length:Int)<=id)=true:=(by simp;omega);obtain ⟨d,hd⟩:∃ d,d=id+1-K.rows.length:=⟨_,rfl⟩
  have hsub:(id:Int)+1-(K.rows.length:Int)=(d:Int):=(by omega);have hd0:0<d:=(by omega);have hdl:K.rows.length+d=id+1:=(by omega);clear k1 k2 hrv hK hS hd;go_enter Tryz.func124,Tryz.ntmps124;go_wp2_with (first|refine sL ?_|(refine sS1 ?_;clear H;intro _ H)|(refine sA ?_;clear H;intro bt _ H)|(go_at_call 38;refine same (Wp _ (H.known HK pk)) ?_));replace H:=H.pick3 (A:=zc xS 214 3 (.slice ad0 K.rows.length c0) K.rows) (B:=blk K.t (.cells #[.pointer (some ⟨K.s,0,none⟩),.slice ad0 K.rows.length c0] 211)) (C:=blk bt (.cells #[.int .u64 0,.int .i64 0,.bool false] 214)) pk pk pk;refine ka H [blk K.t (.cells #[.pointer (some ⟨K.s,0,none⟩),.slice ad0 K.rows.length c0] 211),blk bt (.cells #[.int .u64 0,.int .i64 0,.bool false] 214)] 14 [⟨[],[],[],fun v _=>v=.pointer (some ⟨K.t,0,none⟩),fun _ _=>[]⟩,⟨[],[],[],fun v _=>v=.pointer (some ⟨K.t,0,none⟩),fun _ _=>[]⟩,⟨[],[],[1],fun v _=>v=.pointer (some ⟨K.t,0,none⟩),fun _ _=>[]⟩,⟨[],[],[2],fun v _=>v=.pointer (some ⟨K.t,1,none⟩),fun _ _=>[]⟩,⟨[],[],[3],fun v _=>v=.slice ad0 K.rows.length c0,fun _ _=>[]⟩,⟨[],[],[],fun v _=>v=.int .i64 id,fun _ _=>[]⟩,⟨[],[],[5],fun v _=>v=.int .i64 ((id:Int)+1),fun _ _=>[]⟩,⟨[],[],[],fun v _=>v=.pointer (some ⟨K.t,0,none⟩),fun _ _=>[]⟩,⟨[],[],[7],fun v _=>v=.pointer (some ⟨K.t,0,none⟩),fun _ _=>[]⟩,⟨[],[],[8],fun v _=>v=.pointer (some ⟨K.t,1,none⟩),fun _ _=>[]⟩,⟨[],[],[9],fun v _=>v=.slice ad0 K.rows.length c0,fun _ _=>[]⟩,⟨[],[],[10],fun v _=>v=.int .i64 K.rows.length,fun _ _=>[]⟩,⟨[],[],[6,11],fun v _=>v=.int .i64 d,fun _ _=>[]⟩,⟨[14],[],[4,12],fun _ _=>True,fun v _=>[zc xS 214 3 v (K.rows++zd d ⟨0,0,false⟩)]⟩,⟨[],[],[],fun _ _=>True,fun _ _=>[zc xS 214 3 (.slice ad0 K.rows.length c0) K.rows]⟩] (by kernel_rfl)
   [[],[],[(1,42)],[(2,43)],[(3,44)],[],[(5,46)],[],[(7,48)],[(8,49)],[(9,50)],[(10,51)],[(6,47),(11,52)],[(4,45),(12,53)]] [(0,41),(1,42),(2,43),(3,44),(4,45),(5,46),(6,47),(7,48),(8,49),(9,50),(10,51),(11,52),(12,53),(13,54)] [0,1,2,3,4,5,6,7,8,9,10,11,12,13] (by kernel_rfl) (by kernel_rfl) (by kernel_rfl) ⟨?_,?_,?_,?_,?_,?_,?_,?_,?_,?_,?_,?_,?_,?_,trivial⟩ ?_
  ·intro vals wx X hd H;clear hd;replace H:=sP H;simp only [yu,zx];go_simp;first|exact H|exact ⟨rfl,H⟩
  ·intro vals wx X hd H;clear hd;replace H:=sP H;simp only [yu,zx];go_simp;first|exact H|exact ⟨rfl,H⟩
  ·intro vals wx X hd H;have h1:vals 1=.pointer (some ⟨K.t,0,none⟩):=hd.1;clear hd;replace H:=sP H;simp only [yu,zx,zB,Act.put,zf,zq,zp,h1];clear h1;go_simp;first|exact H|exact ⟨rfl,H⟩
  ·intro vals wx X hd H;have h2:vals 2=.pointer (some ⟨K.t,0,none⟩):=hd.1;clear hd;replace H:=sP H;simp only [yu,zx,zB,Act.put,zf,zq,zp,h2];clear h2;go_simp;first|exact H|exact ⟨rfl,H⟩
  ·intro vals wx X hd H;have h3:vals 3=.pointer (some ⟨K.t,1,none⟩):=hd.1;clear hd;replace H:=sP H;simp only [yu,zx,zB,Act.put,zf,zq,zp,h3];first|refine StStep.cellT rfl rfl rfl gt rfl rfl ⟨rfl,H⟩|refine StStep.wholeT rfl rfl rfl gt rfl ⟨rfl,H⟩
  ·intro vals wx X hd H;clear hd;replace H:=sP H;simp only [yu,zx];go_simp;first|exact H|exact ⟨rfl,H⟩
  ·intro vals wx X hd H;have h5:vals 5=.int .i64 id:=hd.1;clear hd;replace H:=sP H;simp only [yu,zx,zB,Act.put,zf,zq,zp,h5];clear h5;go_simp;exact ⟨by rw [IntKind.wrap_i64];omega,H⟩
  ·intro vals wx X hd H;clear hd;replace H:=sP H;simp only [yu,zx];go_simp;first|exact H|exact ⟨rfl,H⟩
  ·intro vals wx X hd H;have h7:vals 7=.pointer (some ⟨K.t,0,none⟩):=hd.1;clear hd;replace H:=sP H;simp only [yu,zx,zB,Act.put,zf,zq,zp,h7];clear h7;go_simp;first|exact H|exact ⟨rfl,H⟩
  ·intro vals wx X hd H;have h8:vals 8=.pointer (some ⟨K.t,0,none⟩):=hd.1;clear hd;replace H:=sP H;simp only [yu,zx,zB,Act.put,zf,zq,zp,h8];clear h8;go_simp;first|exact H|exact ⟨rfl,H⟩
  ·intro vals wx X hd H;have h9:vals 9=.pointer (some ⟨K.t,1,none⟩):=hd.1;clear hd;replace H:=sP H;simp only [yu,zx,zB,Act.put,zf,zq,zp,h9];first|refine StStep.cellT rfl rfl rfl gt rfl rfl ⟨rfl,H⟩|refine StStep.wholeT rfl rfl rfl gt rfl ⟨rfl,H⟩
  ·intro vals wx X hd H;have h10:vals 10=.slice ad0 K.rows.length c0:=hd.1;clear hd;replace H:=sP H;simp only [yu,zx,zB,Act.put,zf,zq,zp,h10];clear h10;go_simp;first|exact H|exact ⟨rfl,H⟩
  ·intro vals wx X hd H;have h6:vals 6=.int .i64 ((id:Int)+1):=hd.1;have h11:vals 11=.int .i64 K.rows.length:=hd.2.1;clear hd;replace H:=sP H;simp only [yu,zx,zB,Act.put,zf,zq,zp,h6,h11];clear h6 h11;go_simp;exact ⟨by rw [IntKind.wrap_i64];omega,H⟩
  ·intro vals wx X hd H;have h4:vals 4=.slice ad0 K.rows.length c0:=hd.1;have h12:vals 12=.int .i64 d:=hd.2.1;clear hd;replace H:=sP H;simp only [yu,zx,zB,Act.put,zf,zq,zp,h4,h12];clear h4 h12;exact StStep.appendZ (enc:=xS) rfl rfl Tryz.underlying3 rfl rfl rfl (by decide) (by decide) (by decide) ⟨0,0,false⟩ rfl hd0 rfl rfl H (by omega) fun v' w' H=>⟨trivial,H⟩
  intro vals wx hd H;have h0:vals 0=.pointer (some ⟨K.t,0,none⟩):=hd.1;have h1:vals 1=.pointer (some ⟨K.t,0,none⟩):=hd.2.1;have h2:vals 2=.pointer (some ⟨K.t,0,none⟩):=hd.2.2.1;have h3:vals 3=.pointer (some ⟨K.t,1,none⟩):=hd.2.2.2.1;have h4:vals 4=.slice ad0 K.rows.length c0:=hd.2.2.2.2.1;have h5:vals 5=.int .i64 id:=hd.2.2.2.2.2.1;have h6:vals 6=.int .i64 ((id:Int)+1):=hd.2.2.2.2.2.2.1;have h7:vals 7=.pointer (some ⟨K.t,0,none⟩):=hd.2.2.2.2.2.2.2.1;have h8:vals 8=.pointer (some ⟨K.t,0,none⟩):=hd.2.2.2.2.2.2.2.2.1;have h9:vals 9=.pointer (some ⟨K.t,1,none⟩):=hd.2.2.2.2.2.2.2.2.2.1;have h10:vals 10=.slice ad0 K.rows.length c0:=hd.2.2.2.2.2.2.2.2.2.2.1;have h11:vals 11=.int .i64 K.rows.length:=hd.2.2.2.2.2.2.2.2.2.2.2.1;have h12:vals 12=.int .i64 d:=hd.2.2.2.2.2.2.2.2.2.2.2.2.1;clear hd;replace H:=sP H;simp only [yu,zx,zB,Act.put,zf,zq,zp,wQ,yw,h0,h1,h2,h3,h4,h5,h6,h7,h8,h9,h10,h11,h12];clear h0 h1 h2 h3 h4 h5 h6 h7 h8 h9 h10 h11 h12;obtain ⟨rows0,hrows0⟩:∃ rows0,rows0=K.rows++zd d ⟨0,0,false⟩:=⟨_,rfl⟩
  rw [← hrows0] at H;have hlen0:rows0.length=id+1:=(by rw [hrows0];simp;omega);obtain ⟨g,c,hv13,hc,hm⟩:=q8 (H.get (A:=zc xS 214 3 (vals 13) rows0) pk) (by omega);rw [hlen0] at hv13 hc;rw [hv13] at H;simp only [hv13];unfold maxLen at hm;have hR0:Rows S rows0:=(by rw [hrows0];exact zero_rows HKR.out.1.rows d);obtain ⟨n,hn⟩:∃ n,n=id+1:=⟨_,rfl⟩
  have hlast:rows0[id]?=some ⟨0,0,false⟩:=by
   rw [hrows0,yd (by omega),x4,if_pos (by omega)]
  have HR0:=zh hlast;have HRS:=zh hR0;rw [← hn] at H hc hlen0;have HN:=zh hlen0;have hnl:n<=S.list.length+1:=(by omega);simp only [← hn];have hidn:id<n:=(by omega);clear hv13 hrows0 hlast hR0 hlen0 hle hsub hd0 hdl hkl hin hn;have hrd:∀ w,(zc xS 214 3 (.slice (some ⟨g,0,none⟩) n c) rows0).ho w->w.cell? ⟨g,id*3+2,none⟩=some (.bool false):=fun w h=>qj h xT HR0.out (j:=2) rfl
  have HRD:=zh hrd;clear hrd;go_wp2_with (first|refine sL ?_|(refine sS ?_;clear H;intros;rename_i H)|((with_reducible refine qV ?_);refine AtSlice.one H rfl rfl rfl rfl rfl rfl rfl rfl rfl ?_;clear H;intro b _ H;simp only [Act.put,puA,puB,puC])|((with_reducible refine qJ ?_);replace H:=H.empty (A:=zc qE 26 1 (.slice none 0 0) []) (qq _) (by rw [qS];rfl);refine AtAppend.go (enc:=qE) H rfl rfl rfl rfl rfl (by decide) (by decide) rfl pk rfl (H.at pk) [id] rfl (by simp [zU,qE]) ya wu (by simp) ?_;clear H;intro ad8 cp8 _ H;simp only [Act.put,puA,puB,puC]));have HSTART:Hid (RRel S K M w id n (.slice (some ⟨g,0,none⟩) n c) bt (unk rows0*(n+1)+(n-1)) (.slice ad8 (([]:List Nat).length+1) cp8) _):=zh ⟨rows0,[id],HN.out,HRS.out,KStk.one HKR.out.2.1 HR0.out rfl,rfl,.inr (by simp),H.only4 (A:=zc qE 26 1 (.slice ad8 (([]:List Nat).length+1) cp8) ([]++[id])) (B:=blk K.t (.cells #[.pointer (some ⟨K.s,0,none⟩),.slice (some ⟨g,0,none⟩) n c] 211)) (C:=zc xS 214 3 (.slice (some ⟨g,0,none⟩) n c) rows0) (D:=blk bt (.cells #[.int .u64 0,.int .i64 0,.bool false] 214)) pk pk pk pk⟩;generalize unk rows0*(n+1)+(n-1)=KK at HSTART
 case' pos =>
  obtain ⟨g,c,hrv,hc,hm⟩:=q8 (H.get (A:=zc xS 214 3 K.rv K.rows) pk) (by omega);rw [hrv] at H;obtain ⟨r0,hr0⟩:∃ r,K.rows[id]?=some r:=⟨_,zg hin⟩
  have HR0:=zh hr0;have hle:decide ((K.rows.length:Int)<=id)=false:=(by simp;omega);obtain ⟨n,hn⟩:∃ n,K.rows.length=n:=⟨_,rfl⟩
  have HN:=zh hn;rw [hn] at H hle hkl hin hc;have hnl:=hkl;unfold maxLen at hm;clear k1 k2 hd hrv hr0 hK hn hS;go_enter Tryz.func124,Tryz.ntmps124;have hrd:∀ w,(zc xS 214 3 (.slice (some ⟨g,0,none⟩) n c) K.rows).ho w->w.cell? ⟨g,id*3+2,none⟩=some (.bool r0.known):=fun w h=>qj h xT HR0.out (j:=2) rfl
  have HRD:=zh hrd;clear hrd;cases hkn:r0.known
  all_goals
   rw [hkn] at HRD;have HKN:=zh hkn;clear hkn
  case' true =>
   go_wp2_with (first|refine sL ?_|(refine sS1 ?_;clear H;intro _ H)|(refine sA ?_;clear H;intro bt _ H)|(go_at_call 38;refine same (Wp _ (H.known HK pk)) ?_));replace H:=H.empty (A:=zc qE 26 1 (.slice none 0 0) []) (qq _) (by rw [qS];rfl);have HSTART:Hid (RRel S K M w id n (.slice (some ⟨g,0,none⟩) n c) bt (unk K.rows*(n+1)+(n-0)) (.slice none 0 0) _):=zh ⟨K.rows,[],HN.out,HKR.out.1.rows,⟨by simp,by simp,List.Pairwise.nil⟩,rfl,.inl ⟨r0,HR0.out,HKN.out⟩,H.only4 (A:=zc qE 26 1 (.slice none 0 0) []) (B:=blk K.t (.cells #[.pointer (some ⟨K.s,0,none⟩),.slice (some ⟨g,0,none⟩) n c] 211)) (C:=zc xS 214 3 (.slice (some ⟨g,0,none⟩) n c) K.rows) (D:=blk bt (.cells #[.int .u64 0,.int .i64 0,.bool false] 214)) pk pk pk pk⟩;generalize unk K.rows*(n+1)+(n-0)=KK at HSTART
  case' false =>
   go_wp2_with (first|refine sL ?_|(refine sS1 ?_;clear H;intro _ H)|(refine sA ?_;clear H;intro bt _ H)|(go_at_call 38;refine same (Wp _ (H.known HK pk)) ?_)|((with_reducible refine qV ?_);refine AtSlice.one H rfl rfl rfl rfl rfl rfl rfl rfl rfl ?_;clear H;intro b _ H;simp only [Act.put,puA,puB,puC])|((with_reducible refine qJ ?_);replace H:=H.empty (A:=zc qE 26 1 (.slice none 0 0) []) (qq _) (by rw [qS];rfl);refine AtAppend.go (enc:=qE) H rfl rfl rfl rfl rfl (by decide) (by decide) rfl pk rfl (H.at pk) [id] rfl (by simp [zU,qE]) ya wu (by simp) ?_;clear H;intro ad8 cp8 _ H;simp only [Act.put,puA,puB,puC]));have HSTART:Hid (RRel S K M w id n (.slice (some ⟨g,0,none⟩) n c) bt (unk K.rows*(n+1)+(n-1)) (.slice ad8 (([]:List Nat).length+1) cp8) _):=zh ⟨K.rows,[id],HN.out,HKR.out.1.rows,KStk.one HKR.out.2.1 HR0.out HKN.out,rfl,.inr (by simp),H.only4 (A:=zc qE 26 1 (.slice ad8 (([]:List Nat).length+1) cp8) ([]++[id])) (B:=blk K.t (.cells #[.pointer (some ⟨K.s,0,none⟩),.slice (some ⟨g,0,none⟩) n c] 211)) (C:=zc xS 214 3 (.slice (some ⟨g,0,none⟩) n c) K.rows) (D:=blk bt (.cells #[.int .u64 0,.int .i64 0,.bool false] 214)) pk pk pk pk⟩;generalize unk K.rows*(n+1)+(n-1)=KK at HSTART
  all_goals
   have e2:decide (n<=id)=false:=(by simp;omega);try simp only [e2]
   clear e2
 all_goals
  have e1:decide (S.list.length<id)=false:=(by simp;omega);try simp only [e1]
  clear e1;go_loopg [6] KK (fun k v6 wr=>RRel S K M w id n (.slice (some ⟨g,0,none⟩) n c) bt k v6 wr);case atStart=>exact HSTART.out
  case round =>
   clear H;obtain ⟨rows,stk,hn,hR,hstk,hk,hgoal,H⟩:=hrel;rcases yn stk with rfl|⟨st,x,rfl⟩
   ·obtain ⟨ad,c6,rfl,_⟩:=zE (H.get Pick.here);obtain ⟨r,hr,hrk⟩:∃ r,rows[id]?=some r∧r.known=true:=by rcases hgoal with h|h;exact h;simp at h
    have hre:=(hR id r hr).eq hrk;have HRR:=zh hr;have HR:=zh hR;have HE:=zh hre;have HNN:=zh hn;clear hstk hk hgoal hr hR hrk hre hn;go_wp2_with (first|refine sL ?_|(refine sS ?_;clear H;intros;rename_i H)|((with_reducible refine qh ?_);refine AtLoad.rngT (vs:=[.int .u64 r.key,.int .i64 r.lv,.bool r.known]) rfl rfl rfl (wd (H.get (A:=zc xS 214 3 (.slice (some ⟨g,0,none⟩) n c) rows) pk) xT HRR.out) rfl ?_;simp only [Act.put,puA,puB,puC]));refine bodyPost_ret (xd rfl H rfl pk rfl rfl) rfl ?_;have hfin:=(H.pick2 (A:=blk K.t (.cells #[.pointer (some ⟨K.s,0,none⟩),.slice (some ⟨g,0,none⟩) n c] 211)) (B:=zc xS 214 3 (.slice (some ⟨g,0,none⟩) n c) rows) pk pk)
    refine ⟨⟨K.t,K.s,.slice (some ⟨g,0,none⟩) n c,rows⟩,rfl,rfl,⟨by simp only [HNN.out];exact hnl,HR.out⟩,?_,(ZL (K:=⟨K.t,K.s,.slice (some ⟨g,0,none⟩) n c,rows⟩) hfin).onlyHead⟩;rw [HE.out];rfl
   ·obtain ⟨gs,cs,rfl,hgc,hcm⟩:=q8 (H.get Pick.here) (by simp);unfold maxLen at hcm;have hxs:=hstk.low x (by simp);obtain ⟨rx,hrx,hux⟩:=hstk.unk x (by simp);have hxn:=yE hrx;have hsl:=hstk.len;obtain ⟨kd,lt,il,ir,tm,rl,rr,RA⟩:=rule_at HSO.out hR hxs.1 hxn (by omega);simp only [zi,qP] at H hgc hsl;have hlk:(st++[x])[st.length]?=some x:=(by simp);have HLK:=zh hlk;have HK0:=zh hk;have HST2:=zh hstk;have HG:=zh hgoal;have HR:=zh hR;have HNN:=zh hn;have HXX:=zh (za hrx hux);have HXB:=zh hxs;have HRA:=zh RA;have hil:=RA.hil;have hir:=RA.hir;have hxid:=hxs.2;have HRU:Hid (∀ w,(qF K.s lv m S).ho w->Calls zb 68 #[.pointer (some ⟨K.s,0,none⟩),.int .i64 (x:Int)] w fun e w'=>e=.returned (.tuple #[.agg #[.int .i64 kd,.int .u8 lt,.int .i64 il,.int .i64 ir,.int .i64 tm],.nilIface])∧St w [] [] w'):=zh fun w h=>by
     obtain ⟨y,hy,he⟩:=RA.rule;have h1:=hxs.1;have:=YK hy (x:Int) (by omega) w h;rw [he] at this;exact this
    rw [hn] at hxn;generalize hslen:st.length=sl at *;have HSL:=zh hslen;have hshape:=RA.shape;clear hstk hk hgoal hR RA hlk hn hrx hux hxs;have HSH:=zh hshape;clear hshape;go_wp2_with (first|refine sL ?_|(refine sS ?_;clear H;intros;rename_i H)|((with_reducible refine qh ?_);refine AtLoad.cel rfl rfl rfl rfl (Xq (H.get (A:=zc qE 26 1 (.slice (some ⟨gs,0,none⟩) (sl+1) cs) (st++[x])) pk) ya HLK.out rfl) ?_;simp only [Act.put,puA,puB,puC])|(go_at_call 68;with_reducible refine zm (HRU.out _ (H.known HK pk)) ?_;rintro e wc ⟨rfl,hb⟩;replace H:=H.grew hb.below;clear hb));rcases HSH.out with ⟨z1,z2⟩|⟨z1,z2⟩|⟨z1,z2⟩
    ·have b1:((il:Int) != 0)=false:=(by simp;omega);have b2:((ir:Int) != 0)=false:=(by simp;omega);have Z1:=zh z1;have Z2:=zh z2;clear HSH z1 z2;refine zG H 16 [] [] (by kernel_rfl) (by kernel_rfl) ?_;apply Exists.intro;refine ⟨fun w1 hw1 HX=>?_,fun bs wr Hr=>?_⟩
     ·refine sG ?_;repeat (first|go_big_quiet_skip|refine sQ ?_|fail|go_big_quiet_step (fail))
      exact wpQuiet_nil rfl
     clear H;have H:=Hr;clear Hr;replace H:=sH H;refine sT ?_;go_wp2_with (first|refine sL ?_|(refine sS ?_;clear H;intros;rename_i H));refine zG H 16 [] [] (by kernel_rfl) (by kernel_rfl) ?_;apply Exists.intro;refine ⟨fun w1 hw1 HX=>?_,fun bs wr Hr=>?_⟩
     ·refine sG ?_;repeat (first|go_big_quiet_skip|refine sQ ?_|fail|go_big_quiet_step (fail))
      exact wpQuiet_nil rfl
     clear H;have H:=Hr;clear Hr;replace H:=sH H;refine sT ?_;go_wp2_with (first|refine sL ?_|(refine sS ?_;clear H;intros;rename_i H));have hcomp:=HRA.out.comp (.inl Z1.out) (.inl Z2.out);have HC:Hid (∀ w,(ktA ⟨K.t,K.s,.slice (some ⟨g,0,none⟩) n c,rows⟩).ho w->deA.ho w->Calls zb 150 #[.pointer (some ⟨K.t,0,none⟩),.agg #[.int .i64 kd,.int .u8 lt,.int .i64 il,.int .i64 ir,.int .i64 tm]] w fun e w'=>e=.returned (.agg #[.int .u64 (yz S x).key,.int .i64 (yz S x).lv,.bool true])∧St w [] [] w'):=zh fun w h1 h2=>by
      have:=Ys (K:=⟨K.t,K.s,.slice (some ⟨g,0,none⟩) n c,rows⟩) kd lt _ _ tm HRA.out.hkd HRA.out.hlt HRA.out.htm HRA.out.hl HRA.out.hr HRA.out.hbl.1 HRA.out.hbr.1 HRA.out.hbl.2 HRA.out.hbr.2 w h1 h2;rw [hcomp] at this;exact this
     clear hcomp;refine zG H 8 [] [] (by kernel_rfl) (by kernel_rfl) ?_;apply Exists.intro;refine ⟨fun w1 hw1 HX=>?_,fun bs wr Hr=>?_⟩
     ·refine sG ?_;repeat (first|refine sQ ?_|go_big_quiet_step ((go_at_call 150;with_reducible exact wL (HC.out _ ((ZL (K:=⟨K.t,K.s,.slice (some ⟨g,0,none⟩) n c,rows⟩) ((HX _).pick2 (A:=blk K.t (.cells #[.pointer (some ⟨K.s,0,none⟩),.slice (some ⟨g,0,none⟩) n c] 211)) (B:=zc xS 214 3 (.slice (some ⟨g,0,none⟩) n c) rows) pk pk)).ho _ zN) ((HX _).known HK pk))))|go_big_quiet_step (fail))
      exact wpQuiet_nil rfl
     clear H;have H:=Hr;clear Hr;replace H:=sH H;refine sT ?_;go_wp2_with (first|refine sL ?_|(refine sS ?_;clear H;intros;rename_i H)|((with_reducible refine yl ?_);refine AtStore.rowEl (enc:=xS) H rfl rfl rfl rfl rfl rfl (xs:=rows) pk xT (i:=x) (by rw [HNN.out];exact hxn) rfl (yz S x) rfl ?_;clear H;intro _ H;simp only [Act.put,puA,puB,puC]));have hH:Hid (St w M _ _):=zh ((H.pick (A:=zc qE 26 1 (.slice (some ⟨gs,0,none⟩) (sl+1) cs) (st++[x])) pk).cut ya HSL.out);go_roundg (unk (rows.set x (yz S x))*(n+1)+(n-st.length));case measure =>
      have hus:=KV HXX.out.1 HXX.out.2 (z:=yz S x) rfl;have hmul:unk rows*(n+1)=unk (rows.set x (yz S x))*(n+1)+(n+1):=(by rw [← hus,xl,QK]);rw [← HK0.out];simp only [zi,qP,HSL.out];omega
     case rel =>
      refine ⟨rows.set x (yz S x),st,by rw [wo];exact HNN.out,HR.out.set HXB.out.1 (by omega),HST2.out.pop,rfl,?_,?_⟩
      ·by_cases hix:x=id
       ·subst hix;exact .inl ⟨yz S x,kb (by rw [HNN.out];exact hxn),rfl⟩
       ·rcases HG.out with ⟨r,h1,h2⟩|h
        ·exact .inl ⟨r,by rw [j5 hix];exact h1,h2⟩
        ·rcases zl.1 h with h|h
         ·exact .inr h
         ·simp at h;exact absurd h.symm hix
      ·exact hH.out.only4 (A:=zc qE 26 1 (.slice (some ⟨gs,0,none⟩) sl cs) st) (B:=blk K.t (.cells #[.pointer (some ⟨K.s,0,none⟩),.slice (some ⟨g,0,none⟩) n c] 211)) (C:=zc xS 214 3 (.slice (some ⟨g,0,none⟩) n c) (rows.set x (yz S x))) (D:=blk bt (.cells #[.int .u64 0,.int .i64 0,.bool false] 214)) pk pk pk pk
    ·have b1:((il:Int) != 0)=true:=(by simp;omega);have b2:((ir:Int) != 0)=true:=(by simp;omega);have Z1:=zh z1;have Z2:=zh z2;clear HSH z1 z2;cases hkl:rl.known with
     |false =>
      have HU:=zh hkl;refine zG H 16 [] [] (by kernel_rfl) (by kernel_rfl) ?_;apply Exists.intro;refine ⟨fun w1 hw1 HX=>?_,fun bs wr Hr=>?_⟩
      ·refine sG ?_;repeat (first|go_big_quiet_skip|refine sQ ?_|((with_reducible refine yp ?_);refine QtLoad.cel rfl rfl rfl rfl (fun y=>qj ((HX y).get (A:=zc xS 214 3 (.slice (some ⟨g,0,none⟩) n c) rows) pk) xT HRA.out.hl (j:=2) rfl) ?_;simp only [Act.put,puA,puB,puC])|go_big_quiet_step (fail))
       exact wpQuiet_nil rfl
      clear H;have H:=Hr;clear Hr;replace H:=sH H;refine sT ?_;clear hkl;go_wp2_with (first|refine sL ?_|(refine sS ?_;clear H;intros;rename_i H)|((with_reducible refine qV ?_);refine AtSlice.one H rfl rfl rfl rfl rfl rfl rfl rfl rfl ?_;clear H;intro b _ H;simp only [Act.put,puA,puB,puC])|((with_reducible refine qJ ?_);refine AtAppend.go (enc:=qE) H rfl rfl rfl rfl rfl (by decide) (by decide) rfl pk rfl (H.at pk) [il] rfl (by simp [zU,qE]) ya wu (by simp;omega) ?_;clear H;intro ad9 cp9 _ H;simp only [Act.put,puA,puB,puC]));have hH:Hid (St w M _ _):=zh (H.only4 (A:=zc qE 26 1 (.slice ad9 ((st++[x]).length+1) cp9) (st++[x]++[il])) (B:=blk K.t (.cells #[.pointer (some ⟨K.s,0,none⟩),.slice (some ⟨g,0,none⟩) n c] 211)) (C:=zc xS 214 3 (.slice (some ⟨g,0,none⟩) n c) rows) (D:=blk bt (.cells #[.int .u64 0,.int .i64 0,.bool false] 214)) pk pk pk pk);go_roundg (unk rows*(n+1)+(n-(st++[x]++[il]).length));case measure =>
       rw [← HK0.out];simp only [zi,qP,HSL.out];omega
      case rel=>exact ⟨rows,st++[x]++[il],HNN.out,HR.out,HST2.out.push (y:=il) (by have:=Z1.out;omega) HRA.out.hil HRA.out.hl HU.out,rfl,HG.out.imp (fun h=>h) (fun h=>zl.2 (.inl h)),by have:=hH.out;simp only [zi,qP,HSL.out] at this;exact this⟩
     |true =>
      have HKL:=zh hkl;refine zG H 16 [] [] (by kernel_rfl) (by kernel_rfl) ?_;apply Exists.intro;refine ⟨fun w1 hw1 HX=>?_,fun bs wr Hr=>?_⟩
      ·refine sG ?_;repeat (first|go_big_quiet_skip|refine sQ ?_|((with_reducible refine yp ?_);refine QtLoad.cel rfl rfl rfl rfl (fun y=>qj ((HX y).get (A:=zc xS 214 3 (.slice (some ⟨g,0,none⟩) n c) rows) pk) xT HRA.out.hl (j:=2) rfl) ?_;simp only [Act.put,puA,puB,puC])|go_big_quiet_step (fail))
       exact wpQuiet_nil rfl
      clear H;have H:=Hr;clear Hr;replace H:=sH H;refine sT ?_;go_wp2_with (first|refine sL ?_|(refine sS ?_;clear H;intros;rename_i H));clear hkl;cases hkr:rr.known with
      |false =>
       have HU:=zh hkr;refine zG H 16 [] [] (by kernel_rfl) (by kernel_rfl) ?_;apply Exists.intro;refine ⟨fun w1 hw1 HX=>?_,fun bs wr Hr=>?_⟩
       ·refine sG ?_;repeat (first|go_big_quiet_skip|refine sQ ?_|((with_reducible refine yp ?_);refine QtLoad.cel rfl rfl rfl rfl (fun y=>qj ((HX y).get (A:=zc xS 214 3 (.slice (some ⟨g,0,none⟩) n c) rows) pk) xT HRA.out.hr (j:=2) rfl) ?_;simp only [Act.put,puA,puB,puC])|go_big_quiet_step (fail))
        exact wpQuiet_nil rfl
       clear H;have H:=Hr;clear Hr;replace H:=sH H;refine sT ?_;clear hkr;go_wp2_with (first|refine sL ?_|(refine sS ?_;clear H;intros;rename_i H)|((with_reducible refine qV ?_);refine AtSlice.one H rfl rfl rfl rfl rfl rfl rfl rfl rfl ?_;clear H;intro b _ H;simp only [Act.put,puA,puB,puC])|((with_reducible refine qJ ?_);refine AtAppend.go (enc:=qE) H rfl rfl rfl rfl rfl (by decide) (by decide) rfl pk rfl (H.at pk) [ir] rfl (by simp [zU,qE]) ya wu (by simp;omega) ?_;clear H;intro ad9 cp9 _ H;simp only [Act.put,puA,puB,puC]));have hH:Hid (St w M _ _):=zh (H.only4 (A:=zc qE 26 1 (.slice ad9 ((st++[x]).length+1) cp9) (st++[x]++[ir])) (B:=blk K.t (.cells #[.pointer (some ⟨K.s,0,none⟩),.slice (some ⟨g,0,none⟩) n c] 211)) (C:=zc xS 214 3 (.slice (some ⟨g,0,none⟩) n c) rows) (D:=blk bt (.cells #[.int .u64 0,.int .i64 0,.bool false] 214)) pk pk pk pk);go_roundg (unk rows*(n+1)+(n-(st++[x]++[ir]).length));case measure =>
        rw [← HK0.out];simp only [zi,qP,HSL.out];omega
       case rel=>exact ⟨rows,st++[x]++[ir],HNN.out,HR.out,HST2.out.push (y:=ir) (by have:=Z2.out;omega) HRA.out.hir HRA.out.hr HU.out,rfl,HG.out.imp (fun h=>h) (fun h=>zl.2 (.inl h)),by have:=hH.out;simp only [zi,qP,HSL.out] at this;exact this⟩
      |true =>
       have HKR:=zh hkr;refine zG H 16 [] [] (by kernel_rfl) (by kernel_rfl) ?_;apply Exists.intro;refine ⟨fun w1 hw1 HX=>?_,fun bs wr Hr=>?_⟩
       ·refine sG ?_;repeat (first|go_big_quiet_skip|refine sQ ?_|((with_reducible refine yp ?_);refine QtLoad.cel rfl rfl rfl rfl (fun y=>qj ((HX y).get (A:=zc xS 214 3 (.slice (some ⟨g,0,none⟩) n c) rows) pk) xT HRA.out.hr (j:=2) rfl) ?_;simp only [Act.put,puA,puB,puC])|go_big_quiet_step (fail))
        exact wpQuiet_nil rfl
       clear H;have H:=Hr;clear Hr;replace H:=sH H;refine sT ?_;go_wp2_with (first|refine sL ?_|(refine sS ?_;clear H;intros;rename_i H));clear hkr;have hcomp:=HRA.out.comp (.inr HKL.out) (.inr HKR.out);have HC:Hid (∀ w,(ktA ⟨K.t,K.s,.slice (some ⟨g,0,none⟩) n c,rows⟩).ho w->deA.ho w->Calls zb 150 #[.pointer (some ⟨K.t,0,none⟩),.agg #[.int .i64 kd,.int .u8 lt,.int .i64 il,.int .i64 ir,.int .i64 tm]] w fun e w'=>e=.returned (.agg #[.int .u64 (yz S x).key,.int .i64 (yz S x).lv,.bool true])∧St w [] [] w'):=zh fun w h1 h2=>by
        have:=Ys (K:=⟨K.t,K.s,.slice (some ⟨g,0,none⟩) n c,rows⟩) kd lt _ _ tm HRA.out.hkd HRA.out.hlt HRA.out.htm HRA.out.hl HRA.out.hr HRA.out.hbl.1 HRA.out.hbr.1 HRA.out.hbl.2 HRA.out.hbr.2 w h1 h2;rw [hcomp] at this;exact this
       clear hcomp;refine zG H 8 [] [] (by kernel_rfl) (by kernel_rfl) ?_;apply Exists.intro;refine ⟨fun w1 hw1 HX=>?_,fun bs wr Hr=>?_⟩
       ·refine sG ?_;repeat (first|refine sQ ?_|go_big_quiet_step ((go_at_call 150;with_reducible exact wL (HC.out _ ((ZL (K:=⟨K.t,K.s,.slice (some ⟨g,0,none⟩) n c,rows⟩) ((HX _).pick2 (A:=blk K.t (.cells #[.pointer (some ⟨K.s,0,none⟩),.slice (some ⟨g,0,none⟩) n c] 211)) (B:=zc xS 214 3 (.slice (some ⟨g,0,none⟩) n c) rows) pk pk)).ho _ zN) ((HX _).known HK pk))))|go_big_quiet_step (fail))
        exact wpQuiet_nil rfl
       clear H;have H:=Hr;clear Hr;replace H:=sH H;refine sT ?_;go_wp2_with (first|refine sL ?_|(refine sS ?_;clear H;intros;rename_i H)|((with_reducible refine yl ?_);refine AtStore.rowEl (enc:=xS) H rfl rfl rfl rfl rfl rfl (xs:=rows) pk xT (i:=x) (by rw [HNN.out];exact hxn) rfl (yz S x) rfl ?_;clear H;intro _ H;simp only [Act.put,puA,puB,puC]));have hH:Hid (St w M _ _):=zh ((H.pick (A:=zc qE 26 1 (.slice (some ⟨gs,0,none⟩) (sl+1) cs) (st++[x])) pk).cut ya HSL.out);go_roundg (unk (rows.set x (yz S x))*(n+1)+(n-st.length));case measure =>
        have hus:=KV HXX.out.1 HXX.out.2 (z:=yz S x) rfl;have hmul:unk rows*(n+1)=unk (rows.set x (yz S x))*(n+1)+(n+1):=(by rw [← hus,xl,QK]);rw [← HK0.out];simp only [zi,qP,HSL.out];omega
       case rel =>
        refine ⟨rows.set x (yz S x),st,by rw [wo];exact HNN.out,HR.out.set HXB.out.1 (by omega),HST2.out.pop,rfl,?_,?_⟩
        ·by_cases hix:x=id
         ·subst hix;exact .inl ⟨yz S x,kb (by rw [HNN.out];exact hxn),rfl⟩
         ·rcases HG.out with ⟨r,h1,h2⟩|h
          ·exact .inl ⟨r,by rw [j5 hix];exact h1,h2⟩
          ·rcases zl.1 h with h|h
           ·exact .inr h
           ·simp at h;exact absurd h.symm hix
        ·exact hH.out.only4 (A:=zc qE 26 1 (.slice (some ⟨gs,0,none⟩) sl cs) st) (B:=blk K.t (.cells #[.pointer (some ⟨K.s,0,none⟩),.slice (some ⟨g,0,none⟩) n c] 211)) (C:=zc xS 214 3 (.slice (some ⟨g,0,none⟩) n c) (rows.set x (yz S x))) (D:=blk bt (.cells #[.int .u64 0,.int .i64 0,.bool false] 214)) pk pk pk pk
    ·have b1:((il:Int) != 0)=true:=(by simp;omega);have b2:((ir:Int) != 0)=false:=(by simp;omega);have Z1:=zh z1;have Z2:=zh z2;clear HSH z1 z2;cases hkl:rl.known with
     |false =>
      have HU:=zh hkl;refine zG H 16 [] [] (by kernel_rfl) (by kernel_rfl) ?_;apply Exists.intro;refine ⟨fun w1 hw1 HX=>?_,fun bs wr Hr=>?_⟩
      ·refine sG ?_;repeat (first|go_big_quiet_skip|refine sQ ?_|((with_reducible refine yp ?_);refine QtLoad.cel rfl rfl rfl rfl (fun y=>qj ((HX y).get (A:=zc xS 214 3 (.slice (some ⟨g,0,none⟩) n c) rows) pk) xT HRA.out.hl (j:=2) rfl) ?_;simp only [Act.put,puA,puB,puC])|go_big_quiet_step (fail))
       exact wpQuiet_nil rfl
      clear H;have H:=Hr;clear Hr;replace H:=sH H;refine sT ?_;clear hkl;go_wp2_with (first|refine sL ?_|(refine sS ?_;clear H;intros;rename_i H)|((with_reducible refine qV ?_);refine AtSlice.one H rfl rfl rfl rfl rfl rfl rfl rfl rfl ?_;clear H;intro b _ H;simp only [Act.put,puA,puB,puC])|((with_reducible refine qJ ?_);refine AtAppend.go (enc:=qE) H rfl rfl rfl rfl rfl (by decide) (by decide) rfl pk rfl (H.at pk) [il] rfl (by simp [zU,qE]) ya wu (by simp;omega) ?_;clear H;intro ad9 cp9 _ H;simp only [Act.put,puA,puB,puC]));have hH:Hid (St w M _ _):=zh (H.only4 (A:=zc qE 26 1 (.slice ad9 ((st++[x]).length+1) cp9) (st++[x]++[il])) (B:=blk K.t (.cells #[.pointer (some ⟨K.s,0,none⟩),.slice (some ⟨g,0,none⟩) n c] 211)) (C:=zc xS 214 3 (.slice (some ⟨g,0,none⟩) n c) rows) (D:=blk bt (.cells #[.int .u64 0,.int .i64 0,.bool false] 214)) pk pk pk pk);go_roundg (unk rows*(n+1)+(n-(st++[x]++[il]).length));case measure =>
       rw [← HK0.out];simp only [zi,qP,HSL.out];omega
      case rel=>exact ⟨rows,st++[x]++[il],HNN.out,HR.out,HST2.out.push (y:=il) (by have:=Z1.out;omega) HRA.out.hil HRA.out.hl HU.out,rfl,HG.out.imp (fun h=>h) (fun h=>zl.2 (.inl h)),by have:=hH.out;simp only [zi,qP,HSL.out] at this;exact this⟩
     |true =>
      have HKL:=zh hkl;refine zG H 16 [] [] (by kernel_rfl) (by kernel_rfl) ?_;apply Exists.intro;refine ⟨fun w1 hw1 HX=>?_,fun bs wr Hr=>?_⟩
      ·refine sG ?_;repeat (first|go_big_quiet_skip|refine sQ ?_|((with_reducible refine yp ?_);refine QtLoad.cel rfl rfl rfl rfl (fun y=>qj ((HX y).get (A:=zc xS 214 3 (.slice (some ⟨g,0,none⟩) n c) rows) pk) xT HRA.out.hl (j:=2) rfl) ?_;simp only [Act.put,puA,puB,puC])|go_big_quiet_step (fail))
       exact wpQuiet_nil rfl
      clear H;have H:=Hr;clear Hr;replace H:=sH H;refine sT ?_;go_wp2_with (first|refine sL ?_|(refine sS ?_;clear H;intros;rename_i H));clear hkl;refine zG H 16 [] [] (by kernel_rfl) (by kernel_rfl) ?_;apply Exists.intro;refine ⟨fun w1 hw1 HX=>?_,fun bs wr Hr=>?_⟩
      ·refine sG ?_;repeat (first|go_big_quiet_skip|refine sQ ?_|fail|go_big_quiet_step (fail))
       exact wpQuiet_nil rfl
      clear H;have H:=Hr;clear Hr;replace H:=sH H;refine sT ?_;go_wp2_with (first|refine sL ?_|(refine sS ?_;clear H;intros;rename_i H));have hcomp:=HRA.out.comp (.inr HKL.out) (.inl Z2.out);have HC:Hid (∀ w,(ktA ⟨K.t,K.s,.slice (some ⟨g,0,none⟩) n c,rows⟩).ho w->deA.ho w->Calls zb 150 #[.pointer (some ⟨K.t,0,none⟩),.agg #[.int .i64 kd,.int .u8 lt,.int .i64 il,.int .i64 ir,.int .i64 tm]] w fun e w'=>e=.returned (.agg #[.int .u64 (yz S x).key,.int .i64 (yz S x).lv,.bool true])∧St w [] [] w'):=zh fun w h1 h2=>by
       have:=Ys (K:=⟨K.t,K.s,.slice (some ⟨g,0,none⟩) n c,rows⟩) kd lt _ _ tm HRA.out.hkd HRA.out.hlt HRA.out.htm HRA.out.hl HRA.out.hr HRA.out.hbl.1 HRA.out.hbr.1 HRA.out.hbl.2 HRA.out.hbr.2 w h1 h2;rw [hcomp] at this;exact this
      clear hcomp;refine zG H 8 [] [] (by kernel_rfl) (by kernel_rfl) ?_;apply Exists.intro;refine ⟨fun w1 hw1 HX=>?_,fun bs wr Hr=>?_⟩
      ·refine sG ?_;repeat (first|refine sQ ?_|go_big_quiet_step ((go_at_call 150;with_reducible exact wL (HC.out _ ((ZL (K:=⟨K.t,K.s,.slice (some ⟨g,0,none⟩) n c,rows⟩) ((HX _).pick2 (A:=blk K.t (.cells #[.pointer (some ⟨K.s,0,none⟩),.slice (some ⟨g,0,none⟩) n c] 211)) (B:=zc xS 214 3 (.slice (some ⟨g,0,none⟩) n c) rows) pk pk)).ho _ zN) ((HX _).known HK pk))))|go_big_quiet_step (fail))
       exact wpQuiet_nil rfl
      clear H;have H:=Hr;clear Hr;replace H:=sH H;refine sT ?_;go_wp2_with (first|refine sL ?_|(refine sS ?_;clear H;intros;rename_i H)|((with_reducible refine yl ?_);refine AtStore.rowEl (enc:=xS) H rfl rfl rfl rfl rfl rfl (xs:=rows) pk xT (i:=x) (by rw [HNN.out];exact hxn) rfl (yz S x) rfl ?_;clear H;intro _ H;simp only [Act.put,puA,puB,puC]));have hH:Hid (St w M _ _):=zh ((H.pick (A:=zc qE 26 1 (.slice (some ⟨gs,0,none⟩) (sl+1) cs) (st++[x])) pk).cut ya HSL.out);go_roundg (unk (rows.set x (yz S x))*(n+1)+(n-st.length));case measure =>
       have hus:=KV HXX.out.1 HXX.out.2 (z:=yz S x) rfl;have hmul:unk rows*(n+1)=unk (rows.set x (yz S x))*(n+1)+(n+1):=(by rw [← hus,xl,QK]);rw [← HK0.out];simp only [zi,qP,HSL.out];omega
      case rel =>
       refine ⟨rows.set x (yz S x),st,by rw [wo];exact HNN.out,HR.out.set HXB.out.1 (by omega),HST2.out.pop,rfl,?_,?_⟩
       ·by_cases hix:x=id
        ·subst hix;exact .inl ⟨yz S x,kb (by rw [HNN.out];exact hxn),rfl⟩
        ·rcases HG.out with ⟨r,h1,h2⟩|h
         ·exact .inl ⟨r,by rw [j5 hix];exact h1,h2⟩
         ·rcases zl.1 h with h|h
          ·exact .inr h
          ·simp at h;exact absurd h.symm hix
       ·exact hH.out.only4 (A:=zc qE 26 1 (.slice (some ⟨gs,0,none⟩) sl cs) st) (B:=blk K.t (.cells #[.pointer (some ⟨K.s,0,none⟩),.slice (some ⟨g,0,none⟩) n c] 211)) (C:=zc xS 214 3 (.slice (some ⟨g,0,none⟩) n c) (rows.set x (yz S x))) (D:=blk bt (.cells #[.int .u64 0,.int .i64 0,.bool false] 214)) pk pk pk pk
end
section
open Go.RowKit Go.Maps
attribute [local go_sem] qt
section
variable {w0 w:World} {M:List Nat} {L R K R':List As} {A B:As}
theorem St.sepK {w0 w:World} {M:List Nat} {L R K R':List As} {A B:As} (h:St w0 M L w) (k:Ks w0 M K) (hp:Pick L A R) (hq:Pick K B R'):(A.sep B).ho w:=by
 rw [qz];refine ⟨h.get hp,h.known k hq,fun b hb hm=>?_⟩;rcases h.own A hp.mem b hb with h'|h'
 ·have:=B.lt w0 (k.ho B hq.mem) b hm;omega
 ·exact k.apart B hq.mem b hm h'
end
def lvlV:Option Nat->Value
 |none=>.tuple #[.int .i64 0,.iface 73 (.int .i64 4)]
 |some a=>.tuple #[.int .i64 a,.nilIface]
abbrev KPost (S:Sto) (K:Kt) (v:Value) (M:List Nat) (w:World) (e:Ending) (w':World):Prop :=
 ∃ K':Kt,K'.t=K.t∧K'.s=K.s∧KtOk S K'∧e=.returned v∧St w M [ktA K'] w'
theorem key_c {S:Sto} {K:Kt} {lv:Value} {m id:Nat} (hS:S.Ok) (hK:KtOk S K) (h1:1<=id) (h2:id<=S.list.length) (w:World) (h:((ktA K).sep ((qF K.s lv m S).sep deA)).ho w) :
  Calls zb 98 #[.pointer (some ⟨K.t,0,none⟩),.int .i64 id] w (KPost S K (.tuple #[.int .u64 (S.tr id).key,.nilIface]) (ktA K).fp w):=by
 have HR:Hid (∀ w,((ktA K).sep ((qF K.s lv m S).sep deA)).ho w->Calls zb 124 #[.pointer (some ⟨K.t,0,none⟩),.int .i64 id] w (RowPost S K id (ktA K).fp w)):=zh fun w h=>row_c hS hK h1 h2 w h
 rw [qz] at h;obtain ⟨k1,k2,hd⟩:=h;have H:=St.one k1;have HK:Ks w (ktA K).fp [(qF K.s lv m S).sep deA]:=⟨by simpa using k2,by simpa using fun b hb hm=>hd b hm hb⟩
 clear k1 k2 hd;go_enter Tryz.func98,Tryz.ntmps98;go_wp2_with (first|refine sL ?_|(refine sS ?_;clear H;intros;rename_i H)|(go_at_call 124;with_reducible refine zm (HR.out _ (H.sepK HK pk pk)) ?_;rintro e wc ⟨K',x1,x2,x3,rfl,hb⟩;have HX:=zh (za x1 (za x2 x3));clear x1 x2 x3;replace H:=zn ((H.pick pk).call hb);clear hb));go_ret2;exact ⟨K',HX.out.1,HX.out.2.1,HX.out.2.2,rfl,H.only (A:=ktA K') pk⟩
theorem level_c {S:Sto} {K:Kt} {lv:Value} {m id:Nat} (hS:S.Ok) (hK:KtOk S K) (h1:1<=id) (h2:id<=S.list.length) (w:World) (h:((ktA K).sep ((qF K.s lv m S).sep deA)).ho w) :
  Calls zb 122 #[.pointer (some ⟨K.t,0,none⟩),.int .i64 id] w (KPost S K (lvlV (S.tr id).lev) (ktA K).fp w):=by
 have HR:Hid (∀ w,((ktA K).sep ((qF K.s lv m S).sep deA)).ho w->Calls zb 124 #[.pointer (some ⟨K.t,0,none⟩),.int .i64 id] w (fun e w'=>∃ K':Kt,K'.t=K.t∧K'.s=K.s∧KtOk S K'∧e=.returned (.tuple #[.agg #[.int .u64 (S.tr id).key,.int .i64 (lvI (S.tr id).lev),.bool true],.nilIface])∧St w (ktA K).fp [ktA K'] w')):=zh fun w h=>row_c hS hK h1 h2 w h
 rw [qz] at h;obtain ⟨k1,k2,hd⟩:=h;have H:=St.one k1;have HK:Ks w (ktA K).fp [(qF K.s lv m S).sep deA]:=⟨by simpa using k2,by simpa using fun b hb hm=>hd b hm hb⟩
 clear k1 k2 hd;generalize (S.tr id).key=q at *;cases hl:(S.tr id).lev with
 |none =>
  rw [hl] at HR;simp only [lvI] at HR;unfold lvlV;clear hl;go_enter Tryz.func122,Tryz.ntmps122;go_wp2_with (first|refine sL ?_|(refine sS ?_;clear H;intros;rename_i H)|(go_at_call 124;with_reducible refine zm (HR.out _ (H.sepK HK pk pk)) ?_;rintro e wc ⟨K',x1,x2,x3,rfl,hb⟩;have HX:=zh (za x1 (za x2 x3));clear x1 x2 x3;replace H:=zn ((H.pick pk).call hb);clear hb));go_ret2;exact ⟨K',HX.out.1,HX.out.2.1,HX.out.2.2,rfl,H.only (A:=ktA K') pk⟩
 |some a =>
  rw [hl] at HR;simp only [lvI] at HR;have hd:decide ((a:Int)<0)=false:=(by simp);unfold lvlV;clear hl;go_enter Tryz.func122,Tryz.ntmps122;go_wp2_with (first|refine sL ?_|(refine sS ?_;clear H;intros;rename_i H)|(go_at_call 124;with_reducible refine zm (HR.out _ (H.sepK HK pk pk)) ?_;rintro e wc ⟨K',x1,x2,x3,rfl,hb⟩;have HX:=zh (za x1 (za x2 x3));clear x1 x2 x3;replace H:=zn ((H.pick pk).call hb);clear hb));go_ret2;exact ⟨K',HX.out.1,HX.out.2.1,HX.out.2.2,rfl,H.only (A:=ktA K') pk⟩
structure Px where
 p:Nat
 s:Nat
 lv:Value
 m:Nat
 S:Sto
 K:Kt
def pA (X:Px):As:=(blk X.p (.cells #[.pointer (some ⟨X.s,0,none⟩),.pointer (some ⟨X.K.t,0,none⟩)] 119)).sep ((ktA X.K).sep (qF X.s X.lv X.m X.S))
theorem KE {X:Px} {w0 w:World} {M:List Nat} {R:List As} (h:St w0 M (pA X::R) w):St w0 M (blk X.p (.cells #[.pointer (some ⟨X.s,0,none⟩),.pointer (some ⟨X.K.t,0,none⟩)] 119)::ktA X.K::qF X.s X.lv X.m X.S::R) w:=by
 have h1:=h.sep;have h2:=(h1.pick (.there .here)).sep;exact h2.pick (.there (.there .here))
theorem XL {X:Px} {w0 w:World} {M:List Nat} {R:List As} (h:St w0 M (blk X.p (.cells #[.pointer (some ⟨X.s,0,none⟩),.pointer (some ⟨X.K.t,0,none⟩)] 119)::ktA X.K::qF X.s X.lv X.m X.S::R) w):St w0 M (pA X::R) w:=by
 have h1:=(h.pick2 (.there .here) (.there .here)).join;exact (h1.pick (.there .here)).join
theorem pA_ks {X:Px} {w:World} (h:(pA X).ho w):Ks w [] [blk X.p (.cells #[.pointer (some ⟨X.s,0,none⟩),.pointer (some ⟨X.K.t,0,none⟩)] 119),ktA X.K,qF X.s X.lv X.m X.S]:=by
 have k:=(Ks.one h).sep;have k2:Ks w [] [(ktA X.K).sep (qF X.s X.lv X.m X.S),blk X.p (.cells #[.pointer (some ⟨X.s,0,none⟩),.pointer (some ⟨X.K.t,0,none⟩)] 119)] :=
  ⟨fun A hA=>k.ho A (by simp at hA ⊢;rcases hA with h|h <;> simp [h]),fun A hA=>k.apart A (by simp at hA ⊢;rcases hA with h|h <;> simp [h])⟩
 have k3:=k2.sep;exact ⟨fun A hA=>k3.ho A (by simp at hA ⊢;rcases hA with h|h|h <;> simp [h]),fun A hA=>k3.apart A (by simp at hA ⊢;rcases hA with h|h|h <;> simp [h])⟩
attribute [irreducible] pA
theorem Xk {X:Px} {w:World} (h:(pA X).ho w):w.cell? ⟨X.p,0,none⟩=some (.pointer (some ⟨X.s,0,none⟩)):=by
 have:=(pA_ks h).ho (blk X.p (.cells #[.pointer (some ⟨X.s,0,none⟩),.pointer (some ⟨X.K.t,0,none⟩)] 119)) (by simp);rw [xp] at this;rw [cell_of_row w _ 0 _ _ _ this];rfl
theorem pA_c1 {X:Px} {w:World} (h:(pA X).ho w):w.cell? ⟨X.p,1,none⟩=some (.pointer (some ⟨X.K.t,0,none⟩)):=by
 have:=(pA_ks h).ho (blk X.p (.cells #[.pointer (some ⟨X.s,0,none⟩),.pointer (some ⟨X.K.t,0,none⟩)] 119)) (by simp);rw [xp] at this;rw [cell_of_row w _ 1 _ _ _ this];rfl
theorem jh {X:Px} {w:World} (h:(pA X).ho w):(qF X.s X.lv X.m X.S).ho w:=(pA_ks h).ho _ (by simp)
structure zK (X:Px):Prop where
 ok:X.S.Ok
 kt:KtOk X.S X.K
 s:X.K.s=X.s
structure Px.Ext (X X':Px):Prop where
 p:X'.p=X.p
 s:X'.s=X.s
 t:X'.K.t=X.K.t
 le:X.S.Le X'.S
theorem Px.Ext.refl (X:Px):X.Ext X:=⟨rfl,rfl,rfl,.refl _⟩
theorem Px.Ext.trans {X Y Z:Px} (h:X.Ext Y) (k:Y.Ext Z):X.Ext Z:=⟨k.p.trans h.p,k.s.trans h.s,k.t.trans h.t,h.le.trans k.le⟩
abbrev jL (X:Px) (v:Value) (M:List Nat) (w:World) (e:Ending) (w':World):Prop :=
 ∃ X':Px,X.Ext X'∧zK X'∧X'.S=X.S∧e=.returned v∧St w M [pA X'] w'
theorem kt_in {X:Px} {f:FuncId} {args:Array Value} {v:Value} {w:World} (hX:zK X) (h:((pA X).sep deA).ho w) (hc:((ktA X.K).sep ((qF X.K.s X.lv X.m X.S).sep deA)).ho w->Calls zb f args w (KPost X.S X.K v (ktA X.K).fp w)):Calls zb f args w (jL X v (pA X).fp w):=by
 rw [qz] at h;obtain ⟨k1,k2,hd⟩:=h;have H:=KE (St.one k1);have HK:Ks w (pA X).fp [deA]:=⟨by simpa using k2,by simpa using fun b hb hm=>hd b hm hb⟩
 have hs:=(H.pick2 (A:=ktA X.K) (B:=qF X.s X.lv X.m X.S) pk pk).ho;have hdis:=(H.pick2 (A:=ktA X.K) (B:=qF X.s X.lv X.m X.S) pk pk).dis;have hkd:=H.sepK (A:=ktA X.K) (B:=deA) HK pk pk;have hsd:=H.sepK (A:=qF X.s X.lv X.m X.S) (B:=deA) HK pk pk;have hks:∀ b∈(ktA X.K).fp,b ∉ (qF X.s X.lv X.m X.S).fp:=(qu.1 hdis).1 _ (by simp);have hall:((ktA X.K).sep ((qF X.K.s X.lv X.m X.S).sep deA)).ho w:=by
  rw [hX.s,qz];refine ⟨hs _ (by simp),hsd,fun b hb hm=>?_⟩;rw [sep_fp] at hm;rw [qz] at hkd;rcases zl.1 hm with hm|hm
  ·exact hks b hb hm
  ·exact hkd.2.2 b hb hm
 refine (hc hall).mono ?_;rintro e w' ⟨K',x1,x2,x3,rfl,hb⟩;replace H:=(H.pick pk).call hb;simp only [zo,zv] at H;refine ⟨⟨X.p,X.s,X.lv,X.m,X.S,K'⟩,⟨rfl,rfl,x1,.refl _⟩,⟨hX.ok,x3,x2.trans hX.s⟩,rfl,rfl,?_⟩;refine (XL (X:=⟨X.p,X.s,X.lv,X.m,X.S,K'⟩) ?_).onlyHead (L:=[]);simp only;rw [x1];exact H.pick2 (A:=blk X.p (.cells #[.pointer (some ⟨X.s,0,none⟩),.pointer (some ⟨X.K.t,0,none⟩)] 119)) (B:=ktA K') pk pk
theorem Jx {X:Px} {id:Nat} {t:Tr} (hX:zK X) (hd:Den X.S id t) (w:World) (h:((pA X).sep deA).ho w) :
  Calls zb 98 #[.pointer (some ⟨X.K.t,0,none⟩),.int .i64 id] w (jL X (.tuple #[.int .u64 t.key,.nilIface]) (pA X).fp w):=by
 have:=kt_in hX h (key_c hX.ok hX.kt hd.1 hd.2.1 w);rwa [hd.2.2] at this
theorem level_p {X:Px} {id:Nat} {t:Tr} (hX:zK X) (hd:Den X.S id t) (w:World) (h:((pA X).sep deA).ho w) :
  Calls zb 122 #[.pointer (some ⟨X.K.t,0,none⟩),.int .i64 id] w (jL X (lvlV t.lev) (pA X).fp w):=by
 have:=kt_in hX h (level_c hX.ok hX.kt hd.1 hd.2.1 w);rwa [hd.2.2] at this
abbrev QH (X:Px) (t:Tr) (M:List Nat) (w:World) (e:Ending) (w':World):Prop :=
 ∃ (X':Px) (id:Nat) (c:Option Nat),e=.returned (.tuple #[.int .i64 id,wI c])∧X.Ext X'∧zK X'∧X'.S.list.length<=X.S.list.length+1∧((c=none∧Den X'.S id t)∨(c=some 3∧id=0∧X'.S=X.S∧X.S.most<=X.S.list.length))∧St w M [pA X'] w'
theorem Kz {X:Px} {f:FuncId} {args:Array Value} {r:(Nat×Option Nat)×Sto} {t:Tr} {w:World} (hX:zK X) (h:(pA X).ho w) (hm:Made X.S t r) (hc:(qF X.s X.lv X.m X.S).ho w->Calls zb f args w (StoPost X.s X.m (qF X.s X.lv X.m X.S).fp r w)):Calls zb f args w (QH X t (pA X).fp w):=by
 have H:=KE (St.one h);refine (hc (H.get pk)).mono ?_;rintro e w' ⟨lv',rfl,hb⟩;replace H:=(H.pick pk).call hb;simp only [zo,zv] at H;obtain ⟨m1,m2,m3,m4⟩:=hm;refine ⟨⟨X.p,X.s,lv',X.m,r.2,X.K⟩,r.1.1,r.1.2,rfl,⟨rfl,rfl,rfl,m1⟩,⟨m2,hX.kt.le hX.ok m1,hX.s⟩,m3,?_,?_⟩
 ·rcases m4 with h|⟨h1,h2,h3⟩
  ·exact .inl h
  ·exact .inr ⟨by rw [h1],by rw [h1],h2,h3⟩
 ·exact (XL (X:=⟨X.p,X.s,lv',X.m,r.2,X.K⟩) (H.pick3 (A:=blk X.p (.cells #[.pointer (some ⟨X.s,0,none⟩),.pointer (some ⟨X.K.t,0,none⟩)] 119)) (B:=ktA X.K) (C:=qF X.s lv' X.m r.2) pk pk pk)).onlyHead
theorem Ws {X:Px} (b:Nat) (hb:b<256) (hX:zK X) (w:World) (h:(pA X).ho w) :
  Calls zb 42 #[.pointer (some ⟨X.s,0,none⟩),.int .u8 b] w (QH X (.leaf b) (pA X).fp w) :=
 Kz hX h (VD hX.ok hb) fun h=>letter_c hX.ok b hb w h
theorem WA {X:Px} {l r:Nat} {t u:Tr} (hl:Den X.S l t) (hr:Den X.S r u) (hlen:t.len+u.len<=yG) (hX:zK X) (w:World) (h:(pA X).ho w) :
  Calls zb 43 #[.pointer (some ⟨X.s,0,none⟩),.int .i64 l,.int .i64 r] w (QH X (.pair t u) (pA X).fp w) :=
 Kz hX h (made_pair hX.ok hl hr hlen) fun h=>pair_c hX.ok l r hl.2.1 hr.2.1 w h
theorem XM {X:Px} {l k:Nat} {t:Tr} (hl:Den X.S l t) (hk:2<=k) (hk2:k<9223372036854775808) (hlen:t.len*k<=yG) (hX:zK X) (w:World) (h:(pA X).ho w) :
  Calls zb 70 #[.pointer (some ⟨X.s,0,none⟩),.int .i64 l,.int .i64 k] w (QH X (.pow t k) (pA X).fp w) :=
 Kz hX h (VE hX.ok hl hk hlen) fun h=>power_c hX.ok l k hl.2.1 hk2 w h
end
section
open Go.RowKit Go.Maps
attribute [local go_sem] qt
abbrev PH (X:Px) (w:World):Prop:=((pA X).sep deA).ho w
theorem knew_c {s:Nat} (w:World):Calls zb 86 #[.pointer (some ⟨s,0,none⟩)] w fun e w'=>∃ t,e=.returned (.pointer (some ⟨t,0,none⟩))∧St w [] [ktA ⟨t,s,.slice none 0 0,[]⟩] w':=by
 have H:=St.nil w [];go_enter Tryz.func86,Tryz.ntmps86;go_wp2_with (first|refine sL ?_|(refine sS ?_;clear H;intros;rename_i H));rename_i b _;go_ret;refine ⟨_,rfl,?_⟩;have H2:=H.empty (A:=zc xS 214 3 (.slice none 0 0) []) (qq _) (by rw [qS];rfl);exact ZL (K:=⟨_,s,.slice none 0 0,[]⟩) (H2.pick (.there .here))
theorem snew_c {s m:Nat} {lv:Value} {S:Sto} (hS:S.Ok) (w:World) (hs:(qF s lv m S).ho w):Calls zb 54 #[.pointer (some ⟨s,0,none⟩)] w fun e w'=>∃ X:Px,X.s=s∧X.S=S∧zK X∧e=.returned (.pointer (some ⟨X.p,0,none⟩))∧St w (qF s lv m S).fp [pA X] w':=by
 have H:=St.one hs;have HS:=zh hS;clear hs;go_enter Tryz.func54,Tryz.ntmps54;go_wp2_with (first|refine sL ?_|(refine sS ?_;clear H;intros;rename_i H)|(go_at_call 86;refine (knew_c _).mono ?_;rintro e wc ⟨t,rfl,hb⟩;replace H:=zn (H.call0 hb);clear hb));go_ret;refine ⟨⟨_,s,lv,m,S,⟨t,s,.slice none 0 0,[]⟩⟩,rfl,rfl,⟨HS.out,⟨by simp,by simp⟩,rfl⟩,rfl,?_⟩;exact (XL (X:=⟨_,s,lv,m,S,⟨t,s,.slice none 0 0,[]⟩⟩) (H.pick3 pk pk pk)).onlyHead
theorem jH {X:Px} (w:World) (h:(pA X).ho w):Calls zb 53 #[.pointer (some ⟨X.p,0,none⟩)] w fun e w'=>e=.returned (.pointer (some ⟨X.s,0,none⟩))∧w'=w:=by
 have H:=St.nil w [];have HC:=zh (Xk h);clear h;go_enter Tryz.func53,Tryz.ntmps53;go_wp2_with (first|refine sL ?_|(refine sS ?_;clear H;intros;rename_i H)|((with_reducible refine qh ?_);refine AtLoad.cel rfl rfl rfl rfl HC.out ?_;simp only [Act.put,puA,puB,puC]));go_ret;exact ⟨rfl,rfl⟩
theorem Wj {X:Px} (w:World) (h:(pA X).ho w):Calls zb 174 #[.pointer (some ⟨X.p,0,none⟩)] w fun e w'=>e=.returned (.pointer (some ⟨X.K.t,0,none⟩))∧w'=w:=by
 have H:=St.nil w [];have HC:=zh (pA_c1 h);clear h;go_enter Tryz.func174,Tryz.ntmps174;go_wp2_with (first|refine sL ?_|(refine sS ?_;clear H;intros;rename_i H)|((with_reducible refine qh ?_);refine AtLoad.cel rfl rfl rfl rfl HC.out ?_;simp only [Act.put,puA,puB,puC]));go_ret;exact ⟨rfl,rfl⟩
theorem top_zero {X:Px} (w:World) (h:(pA X).ho w):Calls zb 91 #[.pointer (some ⟨X.p,0,none⟩),.int .i64 0] w fun e w'=>e=.returned (.tuple #[.int .i64 0,.nilIface])∧w'=w:=by
 have H:=St.nil w [];have HC:=zh (Xk h);clear h;go_enter Tryz.func91,Tryz.ntmps91;go_wp2_with (first|refine sL ?_|(refine sS ?_;clear H;intros;rename_i H)|((with_reducible refine qh ?_);refine AtLoad.cel rfl rfl rfl rfl HC.out ?_;simp only [Act.put,puA,puB,puC]));go_ret2;exact ⟨rfl,rfl⟩
theorem lvl_shape (o:Option Nat):∃ a c,lvlV o=.tuple #[.int .i64 a,c]:=by cases o;exact ⟨_,_,rfl⟩;exact ⟨_,_,rfl⟩
theorem top_p {X:Px} {id:Nat} {t:Tr} (hX:zK X) (hd:Den X.S id t) (w:World) (h:PH X w):Calls zb 91 #[.pointer (some ⟨X.p,0,none⟩),.int .i64 id] w (jL X (lvlV t.lev) (pA X).fp w):=by
 have HL:Hid (∀ w,PH X w->Calls zb 122 #[.pointer (some ⟨X.K.t,0,none⟩),.int .i64 id] w (jL X (lvlV t.lev) (pA X).fp w)):=zh fun w h=>level_p hX hd w h
 have h':((pA X).sep deA).ho w:=h;rw [qz] at h';obtain ⟨k1,k2,hdd⟩:=h';have H:=St.one k1;have HK:Ks w (pA X).fp [deA]:=⟨by simpa using k2,by simpa using fun b hb hm=>hdd b hm hb⟩
 have h0:((id:Int)==0)=false:=(by have:=hd.1;simp;omega);obtain ⟨a,c,hv⟩:=lvl_shape t.lev;rw [hv] at HL ⊢;clear k1 k2 hdd hv hd h;go_enter Tryz.func91,Tryz.ntmps91;go_wp2_with (first|refine sL ?_|(refine sS ?_;clear H;intros;rename_i H)|((with_reducible refine qh ?_);first|(refine AtLoad.cel rfl rfl rfl rfl (Xk (H.get (A:=pA X) pk)) ?_;simp only [Act.put,puA,puB,puC])|(refine AtLoad.cel rfl rfl rfl rfl (pA_c1 (H.get (A:=pA X) pk)) ?_;simp only [Act.put,puA,puB,puC]))|(go_at_call 122;with_reducible refine zm (HL.out _ (H.sepK HK pk pk)) ?_;rintro e wc ⟨X',x1,x2,x3,rfl,hb⟩;have HX:=zh (za x1 (za x2 x3));clear x1 x2 x3;replace H:=zn ((H.pick pk).call hb);clear hb));go_ret2;exact ⟨X',HX.out.1,HX.out.2.1,HX.out.2.2,rfl,H.only (A:=pA X') pk⟩
def DenL (S:Sto):List Nat->List Tr->Prop
 |[],[]=>True
 |a::l,t::u=>Den S a t∧DenL S l u
 |_,_=>False
theorem DenL.len {S:Sto}:∀ {l:List Nat} {u:List Tr},DenL S l u->l.length=u.length
 |[],[],_=>rfl
 |a::l,t::u,h=>by simp [DenL.len h.2]
 |[],_::_,h=>h.elim
 |_::_,[],h=>h.elim
theorem DenL.get {S:Sto}:∀ {l:List Nat} {u:List Tr} {i:Nat} {a:Nat},DenL S l u->l[i]?=some a->∃ t,u[i]?=some t∧Den S a t
 |a::l,t::u,0,b,h,hb=>by
  have:a=b:=by simpa using hb
  subst this;exact ⟨t,rfl,h.1⟩
 |a::l,t::u,i+1,b,h,hb=>by simpa using h.2.get (i:=i) (by simpa using hb)
 |[],[],i,b,_,hb=>by simp at hb
 |[],_::_,_,_,h,_=>h.elim
 |_::_,[],_,_,h,_=>h.elim
theorem DenL.le {S S':Sto} (hS:S.Ok) (hl:S.Le S'):∀ {l:List Nat} {u:List Tr},DenL S l u->DenL S' l u
 |[],[],_=>trivial
 |a::l,t::u,h=>⟨h.1.le hS hl,h.2.le hS hl⟩
 |[],_::_,h=>h.elim
 |_::_,[],h=>h.elim
theorem DenL.append {S:Sto}:∀ {l l':List Nat} {u u':List Tr},DenL S l u->DenL S l' u'->DenL S (l++l') (u++u')
 |[],_,[],_,_,h=>h
 |a::l,_,t::u,_,h,h'=>⟨h.1,h.2.append h'⟩
 |[],_,_::_,_,h,_=>h.elim
 |_::_,_,[],_,h,_=>h.elim
theorem DenL.snoc {S:Sto} {l:List Nat} {u:List Tr} {a:Nat} {t:Tr} (h:DenL S l u) (ha:Den S a t):DenL S (l++[a]) (u++[t]):=h.append ⟨ha,trivial⟩
theorem DenL.drop {S:Sto}:∀ {l:List Nat} {u:List Tr} (n:Nat),DenL S l u->DenL S (l.drop n) (u.drop n)
 |_,_,0,h=>h
 |[],[],n+1,_=>by simp [DenL]
 |a::l,t::u,n+1,h=>by simpa using h.2.drop n
 |[],_::_,_+1,h=>h.elim
 |_::_,[],_+1,h=>h.elim
theorem DenL.take {S:Sto}:∀ {l:List Nat} {u:List Tr} (n:Nat),DenL S l u->DenL S (l.take n) (u.take n)
 |_,_,0,h=>by simp [DenL]
 |[],[],n+1,_=>by simp [DenL]
 |a::l,t::u,n+1,h=>by simpa [DenL] using ⟨h.1,h.2.take n⟩
 |[],_::_,_+1,h=>h.elim
 |_::_,[],_+1,h=>h.elim
end
section
open Go.RowKit Go.Maps
attribute [local go_sem] qt
def wy (p:Nat×Nat):List Value:=[.int .i64 p.1,.int .i64 p.2]
theorem ws (p:Nat×Nat):(wy p).length=2:=rfl
theorem QV (p:Nat×Nat):∀ u∈wy p,u.oneCell'=true:=by
 intro u hu;simp [wy] at hu;rcases hu with rfl|rfl <;> rfl
inductive ApN:List (Nat×Nat)->Prop
 |nil:ApN []
 |one (p:Nat×Nat):ApN [p]
 |cons (p q:Nat×Nat) (l:List (Nat×Nat)):p.1≠q.1->ApN (q::l)->ApN (p::q::l)
theorem ApN.snoc:∀ {l:List (Nat×Nat)} {q:Nat×Nat},ApN l->(∀ p,l.getLast?=some p->p.1≠q.1)->ApN (l++[q])
 |[],q,_,_=>.one q
 |[p],q,_,h=>.cons p q [] (h p rfl) (.one q)
 |p::r::l,q,h,hl=>by
  cases h with
  |cons _ _ _ h1 h2=>exact .cons p r (l++[q]) h1 (h2.snoc fun x hx=>hl x (by simpa using hx))
theorem ApN.last:∀ {l:List (Nat×Nat)} {x m m':Nat},ApN (l++[(x,m)])->ApN (l++[(x,m')])
 |[],x,m,m',_=>.one _
 |[p],x,m,m',h=>by
  cases h with
  |cons _ _ _ h1 h2=>exact .cons p _ [] h1 (.one _)
 |p::r::l,x,m,m',h=>by
  cases h with
  |cons _ _ _ h1 h2=>exact .cons p r _ h1 (ApN.last (l:=r::l) h2)
structure GrN (l:List Nat) (gs:List (Nat×Nat)):Prop where
 flat:gs.flatMap (fun p=>zd p.2 p.1)=l
 pos:∀ p∈gs,1<=p.2
 ap:ApN gs
theorem GrN.nil:GrN [] []:=⟨rfl,by simp,.nil⟩
theorem GrN.last {l:List Nat} {gs:List (Nat×Nat)} (h:GrN l gs) {y:Nat} (hy:l.getLast?=some y):∃ gs' m,gs=gs'++[(y,m)]:=by
 rcases yn gs with rfl|⟨gs',⟨a,m⟩,rfl⟩
 ·have:=h.flat;simp at this;subst this;simp at hy
 ·have h1:=h.flat;have h2:=h.pos (a,m) (by simp);obtain ⟨k,rfl⟩:=zA (show m≠0 by simp at h2;omega);rw [zI,zt,wW,qO,xG] at h1;rw [← h1,← zQ,xu] at hy;simp at hy;exact ⟨gs',_,by rw [hy]⟩
theorem GrN.more {l:List Nat} {gs':List (Nat×Nat)} {x m:Nat} (h:GrN l (gs'++[(x,m)])):GrN (l++[x]) (gs'++[(x,m+1)]):=by
 refine ⟨?_,fun p hp=>?_,h.ap.last⟩
 ·rw [← h.flat];simp [xG]
 ·rcases zl.1 hp with hp|hp
  ·exact h.pos p (by simp [hp])
  ·simp at hp;subst hp;simp
theorem GrN.new {l:List Nat} {gs:List (Nat×Nat)} {x:Nat} (h:GrN l gs) (hx:∀ y,l.getLast?=some y->y≠x):GrN (l++[x]) (gs++[(x,1)]):=by
 refine ⟨by rw [← h.flat];simp,fun p hp=>?_,h.ap.snoc fun p hp=>?_⟩
 ·rcases zl.1 hp with hp|hp
  ·exact h.pos p hp
  ·simp at hp;subst hp;simp
 ·rcases yn gs with rfl|⟨gs',q,rfl⟩
  ·simp at hp
  ·have e:q=p:=(by simpa using hp);subst e;refine hx q.1 ?_;rw [← h.flat];have h2:=h.pos q (by simp);obtain ⟨k,hk⟩:=zA (show q.2≠0 by omega);rw [zI,xu];simp [hk,xG]
theorem GrN.trees {S:Sto} (hS:S.Ok):∀ {gs:List (Nat×Nat)} {l:List Nat} {ts:List Tr},GrN l gs->DenL S l ts->∃ G:List (Tr×Nat),qU ts=G∧DenL S (gs.map (·.1)) (G.map (·.1))∧gs.map (·.2)=G.map (·.2):=by
 intro gs l ts h hd;suffices hs:∀ (gs:List (Nat×Nat)) (l:List Nat) (ts:List Tr),gs.flatMap (fun p=>zd p.2 p.1)=l->(∀ p∈gs,1<=p.2)->DenL S l ts->∃ G:List (Tr×Nat),G.flatMap (fun p=>zd p.2 p.1)=ts∧(∀ p∈G,1<=p.2)∧DenL S (gs.map (·.1)) (G.map (·.1))∧gs.map (·.2)=G.map (·.2) by
  obtain ⟨G,g1,g2,g3,g4⟩:=hs gs l ts h.flat h.pos hd;refine ⟨G,?_,g3,g4⟩;rw [← g1];refine kH g2 ?_;have hap:∀ (gs:List (Nat×Nat)) (G:List (Tr×Nat)),ApN gs->DenL S (gs.map (·.1)) (G.map (·.1))->ChG (fun p q=>p.1≠q.1) G:=by
   intro gs;induction gs with
   |nil=>intro G _ hd;cases G with|nil=>trivial|cons _ _=>exact hd.elim
   |cons p gs ih =>
    intro G ha hd;cases G with
    |nil=>exact hd.elim
    |cons q G =>
     cases gs with
     |nil=>cases G with|nil=>trivial|cons _ _=>exact hd.2.elim
     |cons p2 gs =>
      cases G with
      |nil=>exact hd.2.elim
      |cons q2 G =>
       cases ha with
       |cons _ _ _ h1 h2=>exact ⟨fun e=>h1 ((hd.1.eq_iff hS hd.2.1).2 e),ih (q2::G) h2 hd.2⟩
  exact hap gs G h.ap g3
 intro gs;induction gs with
 |nil =>
  intro l ts hf _ hd;simp at hf;subst hf;cases ts with
  |nil=>exact ⟨[],rfl,by simp,trivial,rfl⟩
  |cons _ _=>exact hd.elim
 |cons p gs ih =>
  intro l ts hf hp hd;obtain ⟨x,n⟩:=p;simp only [zt] at hf;subst hf;have hn:=hp (x,n) (by simp);simp only at hn;have h1:=hd.take n;have h2:=hd.drop n;have hl:(zd n x).length=n:=qr;rw [List.take_left' hl] at h1;rw [List.drop_left' hl] at h2;obtain ⟨G,g1,g2,g3,g4⟩:=ih _ _ rfl (fun q hq=>hp q (by simp [hq])) h2;have hrep:∀ (n:Nat) (u:List Tr),1<=n->DenL S (zd n x) u->∃ t,u=zd n t∧Den S x t:=by
   intro n;induction n with
   |zero=>intro u h;omega
   |succ n ihn =>
    intro u _ hu;cases u with
    |nil=>exact hu.elim
    |cons t u =>
     rw [zS] at hu;by_cases h0:n=0
     ·subst h0;cases u with
      |nil=>exact ⟨t,rfl,hu.1⟩
      |cons _ _=>exact hu.2.elim
     ·obtain ⟨t',e,ht'⟩:=ihn u (by omega) hu.2;have:=hu.1.tr_inj ht';subst this;exact ⟨t,by rw [e,zS],hu.1⟩
  obtain ⟨t,e,ht⟩:=hrep n _ hn h1;refine ⟨(t,n)::G,?_,fun q hq=>?_,⟨ht,g3⟩,by simp [g4]⟩
  ·simp only [zt];rw [g1,← e,List.take_append_drop]
  ·rcases zL.1 hq with rfl|hq
   ·exact hn
   ·exact g2 q hq
def RunRel (ids:List Nat) (w:World) (v3 v8:Value) (wr:World):Prop :=
 ∃ (i:Nat) (gs:List (Nat×Nat)),v8=.int .i64 i∧i<=ids.length∧GrN (ids.take i) gs∧gs.length<=i∧St w [] [zc wy 179 2 v3 gs] wr
theorem runs_c {P:wi} {ids:List Nat} {g c:Nat} (hr:RowIn P qE 1 (.slice (some ⟨g,0,none⟩) ids.length c) ids) (hlen:ids.length<=65536) (w:World) (hp:(qX P).ho w) :
  Calls zb 97 #[.slice (some ⟨g,0,none⟩) ids.length c] w fun e w'=>∃ ad cp gs,e=.returned (.slice ad gs.length cp)∧GrN ids gs∧St w [] [zc wy 179 2 (.slice ad gs.length cp) gs] w':=by
 have HK:=Ks.one hp;have HR:=zh hr;have H:=(St.nil w []).empty (A:=zc wy 179 2 (.slice none 0 0) []) (qq w) (by rw [qS];rfl);obtain ⟨n,hn⟩:∃ n,ids.length=n:=⟨_,rfl⟩
 have HN:=zh hn;rw [hn] at hlen ⊢;rw [hn] at HR;clear hr hp hn;go_enter Tryz.func97,Tryz.ntmps97;go_wp2_with (first|refine sL ?_|(refine sS ?_;clear H;intros;rename_i H))
 go_loopw [3,8] (fun v3 v8 wr=>RunRel ids w v3 v8 wr) (fun _ v8 _=>n-(intOf v8).toNat)
 case atStart=>exact ⟨0,[],rfl,qy _,by simpa using GrN.nil,zr _,H⟩
 case round =>
  clear H;obtain ⟨i,gs,rfl,hi,hg,hgl,H⟩:=hrel;rw [HN.out] at hi;obtain ⟨ad3,c3,rfl,_⟩:=zE (H.get Pick.here);by_cases hlt:i<n
  ·obtain ⟨x,hx⟩:∃ x,ids[i]?=some x:=⟨_,zg (by rw [HN.out];exact hlt)⟩
   have htk:ids.take (i+1)=ids.take i++[x]:=(by rw [x5,hx];rfl);have HTK:=zh htk;have HC:Hid (∀ w,(qX P).ho w->w.cell? ⟨g,i,none⟩=some (.int .i64 x)):=zh fun w h=>by
    have:=HR.out.cell h ya hx rfl;simpa using this
   clear htk;have HG:=zh hg;by_cases hnew:i=0∨∃ k y,i=k+1∧ids[k]?=some y∧y≠x
   ·have hng:GrN (ids.take (i+1)) (gs++[(x,0+1)]):=by
     rw [HTK.out];refine hg.new fun y hy=>?_
     rcases hnew with h|⟨k,z,rfl,hz,hne⟩
     ·subst h;simp at hy
     ·rw [x5,hz] at hy;simp at hy;rw [← hy];exact hne
    have HNG:=zh hng;obtain ⟨m,hm⟩:∃ m,gs.length=m:=⟨_,rfl⟩
    have HGET:Hid ((gs++[(x,0)])[m]?=some (x,0)):=zh (by rw [← hm];simp);have HM:=zh hm;rw [hm] at hgl H;simp only [hm];have hset:(gs++[(x,0)]).set m (x,0+1)=gs++[(x,0+1)]:=(by rw [← hm];simp);have HSET:=zh hset;obtain ⟨q,hq⟩:∃ q,q=0:=⟨_,rfl⟩
    clear hg hng hset hx;rcases hnew with h0|⟨k,y,rfl,hy,hne⟩
    ·subst h0;clear hq q;go_wp2_with (first|refine sL ?_|(refine sS ?_;clear H;intros;rename_i H)|((with_reducible refine qh ?_);first|(refine AtLoad.cel rfl rfl rfl rfl (HC.out _ (H.known HK pk)) ?_;simp only [Act.put,puA,puB,puC])|(refine AtLoad.cel rfl rfl rfl rfl (qj (H.get Pick.here) ws HGET.out (j:=1) rfl) ?_;simp only [Act.put,puA,puB,puC]))|((with_reducible refine qV ?_);refine AtSlice.one H rfl rfl rfl rfl rfl rfl rfl rfl rfl ?_;clear H;intro b _ H;simp only [Act.put,puA,puB,puC])|((with_reducible refine qJ ?_);refine AtAppend.go (enc:=wy) H rfl rfl rfl rfl rfl (by decide) (by decide) rfl pk rfl (H.at pk) [(x,0)] rfl (by simp [zU,wy]) ws QV (by simp;omega) ?_;clear H;intro ad9 cp9 _ H;obtain ⟨g9,c9,e9,_,_⟩:=q8 (H.get Pick.here) (by simp);injection e9 with e9 _ e8;subst e9;subst e8;simp only [Act.put,puA,puB,puC])|((with_reducible refine yl ?_);refine AtStore.rowAk (enc:=wy) (k:=2) (i:=m) (j:=1) H rfl rfl rfl rfl rfl rfl pk ws HGET.out (by omega) rfl (x,0+1) rfl ?_;clear H;intro _ H;simp only [Act.put,puA,puB,puC]));refine ⟨⟨_,gs++[(x,0+1)],by go_num,by rw [HN.out];omega,HNG.out,by simp [HM.out];omega,?_⟩,by simp [intOf];omega⟩;have hH:=H.onlyHead;rw [HSET.out] at hH;exact hH
    ·have HC1:Hid (∀ w,(qX P).ho w->w.cell? ⟨g,k,none⟩=some (.int .i64 y)):=zh fun w h=>by
      have:=HR.out.cell h ya hy rfl;simpa using this
     have d1:((y:Int) != x)=true:=(by simp;omega);have d2:((k:Int)+1==0)=false:=(by simp;omega);clear hy hne hq q;go_wp2_with (first|refine sL ?_|(refine sS ?_;clear H;intros;rename_i H)|((with_reducible refine qh ?_);first|(refine AtLoad.cel rfl rfl rfl rfl (HC.out _ (H.known HK pk)) ?_;simp only [Act.put,puA,puB,puC])|(refine AtLoad.cel rfl rfl rfl rfl (HC1.out _ (H.known HK pk)) ?_;simp only [Act.put,puA,puB,puC])|(refine AtLoad.cel rfl rfl rfl rfl (qj (H.get Pick.here) ws HGET.out (j:=1) rfl) ?_;simp only [Act.put,puA,puB,puC]))|((with_reducible refine qV ?_);refine AtSlice.one H rfl rfl rfl rfl rfl rfl rfl rfl rfl ?_;clear H;intro b _ H;simp only [Act.put,puA,puB,puC])|((with_reducible refine qJ ?_);refine AtAppend.go (enc:=wy) H rfl rfl rfl rfl rfl (by decide) (by decide) rfl pk rfl (H.at pk) [(x,0)] rfl (by simp [zU,wy]) ws QV (by simp;omega) ?_;clear H;intro ad9 cp9 _ H;obtain ⟨g9,c9,e9,_,_⟩:=q8 (H.get Pick.here) (by simp);injection e9 with e9 _ e8;subst e9;subst e8;simp only [Act.put,puA,puB,puC])|((with_reducible refine yl ?_);refine AtStore.rowAk (enc:=wy) (k:=2) (i:=m) (j:=1) H rfl rfl rfl rfl rfl rfl pk ws HGET.out (by omega) rfl (x,0+1) rfl ?_;clear H;intro _ H;simp only [Act.put,puA,puB,puC]));refine ⟨⟨_,gs++[(x,0+1)],by go_num,by rw [HN.out];omega,HNG.out,by simp [HM.out];omega,?_⟩,by simp [intOf];omega⟩;have hH:=H.onlyHead;rw [HSET.out] at hH;exact hH
   ·obtain ⟨k,rfl⟩:=zA (show i≠0 from fun h=>hnew (.inl h));obtain ⟨y,hy⟩:∃ y,ids[k]?=some y:=⟨_,zg (by rw [HN.out];omega)⟩
    have hyx:y=x:=Classical.byContradiction fun h=>hnew (.inr ⟨k,y,rfl,hy,h⟩)
    subst hyx;obtain ⟨gs1,q,rfl⟩:=hg.last (y:=y) (by rw [x5,hy];simp);have hng:GrN (ids.take (k+1+1)) (gs1++[(y,q+1)]):=(by rw [HTK.out];exact hg.more);have HNG:=zh hng;have HC1:Hid (∀ w,(qX P).ho w->w.cell? ⟨g,k,none⟩=some (.int .i64 y)):=zh fun w h=>by
     have:=HR.out.cell h ya hy rfl;simpa using this
    obtain ⟨m,hm⟩:∃ m,gs1.length=m:=⟨_,rfl⟩
    have HGET:Hid ((gs1++[(y,q)])[m]?=some (y,q)):=zh (by rw [← hm];simp);have hset:(gs1++[(y,q)]).set m (y,q+1)=gs1++[(y,q+1)]:=(by rw [← hm];simp);have HSET:=zh hset;have hql:q<=65536:=by
     have h1:=congrArg ym hg.flat;simp only [zI,zi,zt,wW,qO,qr,qg] at h1;omega
    obtain ⟨g3,c4,e9,_,_⟩:=q8 (H.get Pick.here) (by simp);injection e9 with e9 _ e8
    subst e9;subst e8;simp only [zi,qP,hm] at H hgl ⊢;have HM:=zh hm;have d2:((k:Int)+1==0)=false:=(by simp;omega);clear hg hng hset hx hy hnew;go_wp2_with (first|refine sL ?_|(refine sS ?_;clear H;intros;rename_i H)|((with_reducible refine qh ?_);first|(refine AtLoad.cel rfl rfl rfl rfl (HC.out _ (H.known HK pk)) ?_;simp only [Act.put,puA,puB,puC])|(refine AtLoad.cel rfl rfl rfl rfl (HC1.out _ (H.known HK pk)) ?_;simp only [Act.put,puA,puB,puC])|(refine AtLoad.cel rfl rfl rfl rfl (qj (H.get Pick.here) ws HGET.out (j:=1) rfl) ?_;simp only [Act.put,puA,puB,puC]))|((with_reducible refine yl ?_);refine AtStore.rowAk (enc:=wy) (k:=2) (i:=m) (j:=1) H rfl rfl rfl rfl rfl rfl pk ws HGET.out (by omega) rfl (y,q+1) rfl ?_;clear H;intro _ H;simp only [Act.put,puA,puB,puC]));refine ⟨⟨_,gs1++[(y,q+1)],by go_num,by rw [HN.out];omega,HNG.out,by simp [HM.out];omega,?_⟩,by simp [intOf];omega⟩;have hH:=H.onlyHead;rw [HSET.out] at hH;exact hH
  ·obtain rfl:i=n:=by omega
   have HG:=zh hg;clear hg;go_wp2_with (first|refine sL ?_|(refine sS ?_;clear H;intros;rename_i H));go_ret;have hg:=HG.out;rw [← HN.out,jx] at hg;exact ⟨ad3,c3,gs,rfl,hg,H.only (A:=zc wy 179 2 (.slice ad3 gs.length c3) gs) pk⟩
end
section
def qR (f:Nat->Nat->Bool):Nat->List Nat->List Nat
 |_,[]=>[]
 |_,[_]=>[]
 |o,x::y::r=>if f x y then o::qR f (o+2) r else qR f (o+1) (y::r)
def vM (f:Nat->Nat->Bool) (l:List Nat) (i:Nat):Bool:=match l[i]?,l[i+1]? with|some x,some y=>f x y|_,_=>false
def wG (f:Nat->Nat->Bool) (l:List Nat) (n:Nat):List Nat:=(zk n).filter (vM f l)
theorem allIx_succ (f:Nat->Nat->Bool) (l:List Nat) (n:Nat):wG f l (n+1)=if vM f l n then wG f l n++[n] else wG f l n:=by
 unfold wG;rw [vh,List.filter_append];by_cases h:vM f l n <;> simp [h]
theorem W3 (f:Nat->Nat->Bool) (x:Nat) (l:List Nat) (n:Nat):wG f (x::l) (n+1)=(if vM f (x::l) 0 then [0] else [])++(wG f l n).map (·+1):=by
 unfold wG;rw [List.range_succ_eq_map,kA,List.filter_map];have:(vM f (x::l)) ∘ Nat.succ=vM f l:=by funext i;simp [vM,Function.comp]
 rw [this];split <;> simp
theorem Qx (f:Nat->Nat->Bool) (hf:∀ x y z,f x y=true->f y z=false):∀ (l:List Nat) (o:Nat),qR f o l=(wG f l (l.length-1)).map (·+o)
 |[],o=>by simp [qR,wG]
 |[x],o=>by simp [qR,wG]
 |[x,y],o=>by
  have h0:vM f [x,y] 0=f x y:=rfl;simp only [qR,wG];by_cases h:f x y=true <;> simp [h,h0,vh]
 |x::y::z::r,o=>by
  have ih1:=Qx f hf (z::r) (o+2);have ih2:=Qx f hf (y::z::r) (o+1);have h0:vM f (x::y::z::r) 0=f x y:=rfl;have h1:vM f (y::z::r) 0=f y z:=rfl;have e1:(x::y::z::r).length-1=(z::r).length+1:=(by simp);have e2:(y::z::r).length-1=(z::r).length:=(by simp);rw [qR,e1,W3,h0];by_cases h:f x y=true
  ·rw [if_pos h,if_pos h,ih1];have e3:(z::r).length=((z::r).length-1)+1:=(by simp);rw [e3,W3,h1,hf x y z h];simp [Zt,Function.comp_def,wA,kf,Nat.add_left_comm]
  ·rw [if_neg h,if_neg h,ih2,e2];simp [Zt,Function.comp_def,wA,kf,Nat.add_left_comm]
def jK (s:Nat×Nat):List Nat:=(zk (s.2/2)).map fun j=>s.1+2*j
theorem stIx_two (o n:Nat):jK (o,n+2)=o::jK (o+2,n):=by
 unfold jK;rw [show (n+2)/2=n/2+1 by omega,List.range_succ_eq_map];simp only [zX,Zt,Nat.mul_zero,Nat.add_zero];congr 1
 apply Ym;intro j _;simp;omega
def eqB (x y:Nat):Bool:=decide (x=y)
theorem ZO (k:Nat):∀ (n o:Nat) (r:List Nat),(∀ y,r.head?=some y->y≠k)->qR eqB o (zd n k++r)=jK (o,n)++qR eqB (o+n) r
 |0,o,r,_=>by simp [jK]
 |1,o,r,h=>by
  cases r with
  |nil=>simp [qR,jK]
  |cons y r =>
   have hy:=h y rfl;have:eqB k y=false:=by simp [eqB];exact fun e=>hy e.symm
   simp [qR,jK,this]
 |n+2,o,r,h=>by
  rw [zS,zS,zo,zo,qR,if_pos (by simp [eqB]),ZO k n (o+2) r h,stIx_two];simp [wA,kf 2 n]
structure StInv (l:List Nat) (i from_:Nat) (sts:List (Nat×Nat)):Prop where
 le:from_<=i
 same:∀ j,from_<=j->j<=i->j<l.length->l[j]?=l[from_]?
 ix:qR eqB 0 l=sts.flatMap jK++qR eqB from_ (l.drop from_)
 two:∀ s∈sts,2<=s.2∧s.1+s.2<=l.length
theorem StInv.start (l:List Nat):StInv l 0 0 []:=⟨zr _,fun j h1 h2 _=>by rw [show j=0 by omega],by simp,by simp⟩
theorem StInv.go {l:List Nat} {i fr:Nat} {sts:List (Nat×Nat)} (h:StInv l i fr sts) (hi:l[i+1]?=l[i]?) (hlt:i+1<l.length):StInv l (i+1) fr sts:=by
 refine ⟨by have:=h.le;omega,fun j h1 h2 h3=>?_,h.ix,h.two⟩;by_cases hj:j<=i
 ·exact h.same j h1 hj h3
 ·rw [show j=i+1 by omega,hi];exact h.same i h.le (zr _) (by omega)
theorem StInv.drop_eq {l:List Nat} {i fr:Nat} {sts:List (Nat×Nat)} (h:StInv l i fr sts) {k:Nat} (hk:l[i]?=some k):l.drop fr=zd (i+1-fr) k++l.drop (i+1):=by
 have hil:=yE hk;apply Zm;intro j;rw [yh,yS];split
 ·rename_i hj;simp only [qr] at hj;rw [x4,if_pos hj];have e1:=h.same (fr+j) (by omega) (by omega) (by omega);have e2:=h.same i h.le (zr _) hil;rw [e1,← e2,hk]
 ·rename_i hj;simp only [qr] at hj ⊢;rw [yh];congr 1
  have:=h.le;omega
theorem StInv.cut {l:List Nat} {i fr:Nat} {sts:List (Nat×Nat)} (h:StInv l i fr sts) {k:Nat} (hk:l[i]?=some k) (hn:∀ y,l[i+1]?=some y->y≠k):StInv l (i+1) (i+1) (if 1<i+1-fr then sts++[(fr,i+1-fr)] else sts):=by
 have hil:=yE hk;have hle:=h.le;refine ⟨zr _,fun j h1 h2 h3=>by rw [show j=i+1 by omega],?_,fun s hs=>?_⟩
 ·have e:=ZO k (i+1-fr) fr (l.drop (i+1)) (fun y hy=>hn y (by rw [List.head?_drop] at hy;exact hy));rw [h.ix,h.drop_eq hk,e,show fr+(i+1-fr)=i+1 by omega];split
  ·simp
  ·rename_i hh;have:jK (fr,i+1-fr)=[]:=by unfold jK;rw [show (fr,i+1-fr).2/2=0 by simp only;omega];rfl
   rw [this];simp
 ·split at hs
  ·rcases zl.1 hs with hs|hs
   ·exact h.two s hs
   ·simp at hs;subst hs;simp;omega
  ·exact h.two s hs
theorem StInv.done {l:List Nat} {sts:List (Nat×Nat)} (h:StInv l l.length l.length sts):qR eqB 0 l=sts.flatMap jK:=by
 have:=h.ix;simpa [qR] using this
theorem fitsN_tie {L:Nat} (h:yQ L=true) (x y:Nat):yt x y L=eqB x y:=by
 unfold yQ at h;simp only [decide_eq_true_eq] at h;unfold yt eqB;rw [if_neg (by omega),if_pos h.2.2]
theorem Kl {L:Nat} (h:yQ L=false) (x y z:Nat) (hf:yt x y L=true):yt y z L=false:=by
 unfold yt at hf ⊢;unfold yQ at h;split at hf
 ·cases hf
 ·rename_i h1;have h2:¬ (L/2-1)%123=122:=fun e=>by simp [e] at h;omega
  rw [if_neg h2] at hf;simp only [if_neg h1,if_neg h2];simp only [zu,decide_eq_true_eq] at hf;simp;omega
end
section
open Go.RowKit Go.Maps
attribute [local go_sem] qt
def encU (x:Nat):List Value:=[.int .u64 x]
theorem QW (x:Nat):(encU x).length=1:=rfl
def StRel (keys:List Nat) (w:World) (v3 v4 v9:Value) (wr:World):Prop :=
 ∃ (i fr:Nat) (sts:List (Nat×Nat)),v9=.int .i64 i∧v4=.int .i64 fr∧i<=keys.length∧StInv keys i fr sts∧sts.length<=i∧(i=keys.length->fr=i)∧St w [] [zc wy 222 2 v3 sts] wr
theorem VX {P:wi} {keys:List Nat} {g c:Nat} (hr:RowIn P encU 1 (.slice (some ⟨g,0,none⟩) keys.length c) keys) (hlen:keys.length<=65536) (w:World) (hp:(qX P).ho w) :
  Calls zb 126 #[.slice (some ⟨g,0,none⟩) keys.length c] w fun e w'=>∃ ad cp sts,e=.returned (.slice ad sts.length cp)∧qR eqB 0 keys=sts.flatMap jK∧(∀ s∈sts,2<=s.2∧s.1+s.2<=keys.length)∧sts.length<=keys.length∧St w [] [zc wy 222 2 (.slice ad sts.length cp) sts] w':=by
 have HK:=Ks.one hp;have HR:=zh hr;have H:=(St.nil w []).empty (A:=zc wy 222 2 (.slice none 0 0) []) (qq w) (by rw [qS];rfl);obtain ⟨n,hn⟩:∃ n,keys.length=n:=⟨_,rfl⟩
 have HN:=zh hn;rw [hn] at hlen ⊢;rw [hn] at HR;clear hr hp hn;go_enter Tryz.func126,Tryz.ntmps126;go_wp2_with (first|refine sL ?_|(refine sS ?_;clear H;intros;rename_i H))
 go_loopw [3,4,9] (fun v3 v4 v9 wr=>StRel keys w v3 v4 v9 wr) (fun _ _ v9 _=>n-(intOf v9).toNat)
 case atStart=>exact ⟨0,0,[],rfl,rfl,qy _,StInv.start _,zr _,fun _=>rfl,H⟩
 case round =>
  clear H;obtain ⟨i,fr,sts,rfl,rfl,hi,hinv,hsl,hend,H⟩:=hrel;rw [HN.out] at hi hend;obtain ⟨ad3,c3,rfl,_⟩:=zE (H.get Pick.here);have hfr:=hinv.le;have HI:=zh hinv;by_cases hlt:i<n
  ·obtain ⟨k,hk⟩:∃ k,keys[i]?=some k:=⟨_,zg (by rw [HN.out];exact hlt)⟩
   have HC:Hid (∀ w,(qX P).ho w->w.cell? ⟨g,i,none⟩=some (.int .u64 k)):=zh fun w h=>by
    have:=HR.out.cell h QW hk rfl;simpa using this
   have HK0:=zh hk;obtain ⟨q,hq⟩:∃ q,q=i+1-fr:=⟨_,rfl⟩
   have hs:(i:Int)+1-(fr:Int)=(q:Int):=(by omega);have HQ:=zh hq;clear hinv hend hk;by_cases hnx:i+1<n
   ·obtain ⟨y,hy⟩:∃ y,keys[i+1]?=some y:=⟨_,zg (by rw [HN.out];exact hnx)⟩
    have HC1:Hid (∀ w,(qX P).ho w->w.cell? ⟨g,i+1,none⟩=some (.int .u64 y)):=zh fun w h=>by
     have:=HR.out.cell h QW hy rfl;simpa using this
    have d1:decide ((i:Int)+1<(n:Int))=true:=(by simp;omega);by_cases hyk:y=k
    ·subst hyk;have HY:=zh hy;clear hy hq;go_wp2_with (first|refine sL ?_|(refine sS ?_;clear H;intros;rename_i H));refine zG H 17 [] [] (by kernel_rfl) (by kernel_rfl) ?_;apply Exists.intro;refine ⟨fun w1 hw1 HX=>?_,fun bs wr Hr=>?_⟩
     ·refine sG ?_;repeat (first|go_big_quiet_skip|refine sQ ?_|((with_reducible refine yp ?_);first|(refine QtLoad.cel rfl rfl rfl rfl (fun y=>HC.out _ ((HX y).known HK pk)) ?_;simp only [Act.put,puA,puB,puC])|(refine QtLoad.cel rfl rfl rfl rfl (fun y=>HC1.out _ ((HX y).known HK pk)) ?_;simp only [Act.put,puA,puB,puC]))|go_big_quiet_step (fail))
      exact wpQuiet_nil rfl
     clear H;have H:=Hr;clear Hr;replace H:=sH H;refine sT ?_;go_wp2_with (first|refine sL ?_|(refine sS ?_;clear H;intros;rename_i H));refine ⟨⟨i+1,fr,sts,by go_num,rfl,by rw [HN.out];omega,HI.out.go (by rw [HY.out,HK0.out]) (by rw [HN.out];exact hnx),by omega,fun h=>by rw [HN.out] at h;omega,H.onlyHead⟩,by simp [intOf];omega⟩
    ·have HNE:Hid (∀ z,keys[i+1]?=some z->z≠k):=zh fun z hz=>by rw [hy] at hz;injection hz with hz;rw [← hz];exact hyk
     have d2:((y:Int)==(k:Int))=false:=(by simp;omega);clear hy hyk hq;by_cases hq1:1<q
     ·go_wp2_with (first|refine sL ?_|(refine sS ?_;clear H;intros;rename_i H));refine zG H 17 [] [] (by kernel_rfl) (by kernel_rfl) ?_;apply Exists.intro;refine ⟨fun w1 hw1 HX=>?_,fun bs wr Hr=>?_⟩
      ·refine sG ?_;repeat (first|go_big_quiet_skip|refine sQ ?_|((with_reducible refine yp ?_);first|(refine QtLoad.cel rfl rfl rfl rfl (fun y=>HC.out _ ((HX y).known HK pk)) ?_;simp only [Act.put,puA,puB,puC])|(refine QtLoad.cel rfl rfl rfl rfl (fun y=>HC1.out _ ((HX y).known HK pk)) ?_;simp only [Act.put,puA,puB,puC]))|go_big_quiet_step (fail))
       exact wpQuiet_nil rfl
      clear H;have H:=Hr;clear Hr;replace H:=sH H;refine sT ?_;go_wp2_with (first|refine sL ?_|(refine sS ?_;clear H;intros;rename_i H)|((with_reducible refine qV ?_);refine AtSlice.one H rfl rfl rfl rfl rfl rfl rfl rfl rfl ?_;clear H;intro b _ H;simp only [Act.put,puA,puB,puC])|((with_reducible refine qJ ?_);refine AtAppend.go (enc:=wy) H rfl rfl rfl rfl rfl (by decide) (by decide) rfl pk rfl (H.at pk) [(fr,q)] rfl (by simp [zU,wy]) ws QV (by simp;omega) ?_;clear H;intro ad9 cp9 _ H;simp only [Act.put,puA,puB,puC]));refine ⟨⟨i+1,i+1,sts++[(fr,q)],by go_num,by go_num,by rw [HN.out];omega,?_,by first|omega|(simp;omega),fun _=>rfl,H.onlyHead⟩,by simp [intOf];omega⟩;have:=HI.out.cut HK0.out HNE.out;rw [← HQ.out] at this;rw [if_pos (by omega)] at this;exact this
     ·go_wp2_with (first|refine sL ?_|(refine sS ?_;clear H;intros;rename_i H));refine zG H 17 [] [] (by kernel_rfl) (by kernel_rfl) ?_;apply Exists.intro;refine ⟨fun w1 hw1 HX=>?_,fun bs wr Hr=>?_⟩
      ·refine sG ?_;repeat (first|go_big_quiet_skip|refine sQ ?_|((with_reducible refine yp ?_);first|(refine QtLoad.cel rfl rfl rfl rfl (fun y=>HC.out _ ((HX y).known HK pk)) ?_;simp only [Act.put,puA,puB,puC])|(refine QtLoad.cel rfl rfl rfl rfl (fun y=>HC1.out _ ((HX y).known HK pk)) ?_;simp only [Act.put,puA,puB,puC]))|go_big_quiet_step (fail))
       exact wpQuiet_nil rfl
      clear H;have H:=Hr;clear Hr;replace H:=sH H;refine sT ?_;go_wp2_with (first|refine sL ?_|(refine sS ?_;clear H;intros;rename_i H));refine ⟨⟨i+1,i+1,sts,by go_num,by go_num,by rw [HN.out];omega,?_,by first|omega|(simp;omega),fun _=>rfl,H.onlyHead⟩,by simp [intOf];omega⟩;have:=HI.out.cut HK0.out HNE.out;rw [← HQ.out] at this;rw [if_neg (by omega)] at this;exact this
   ·have HNE:Hid (∀ z,keys[i+1]?=some z->z≠k):=zh fun z hz=>by have:=yE hz;rw [HN.out] at this;omega
    have d1:decide ((i:Int)+1<(n:Int))=false:=(by simp;omega);clear hq;by_cases hq1:1<q
    ·go_wp2_with (first|refine sL ?_|(refine sS ?_;clear H;intros;rename_i H));refine zG H 17 [] [] (by kernel_rfl) (by kernel_rfl) ?_;apply Exists.intro;refine ⟨fun w1 hw1 HX=>?_,fun bs wr Hr=>?_⟩
     ·refine sG ?_;repeat (first|go_big_quiet_skip|refine sQ ?_|fail|go_big_quiet_step (fail))
      exact wpQuiet_nil rfl
     clear H;have H:=Hr;clear Hr;replace H:=sH H;refine sT ?_;go_wp2_with (first|refine sL ?_|(refine sS ?_;clear H;intros;rename_i H)|((with_reducible refine qV ?_);refine AtSlice.one H rfl rfl rfl rfl rfl rfl rfl rfl rfl ?_;clear H;intro b _ H;simp only [Act.put,puA,puB,puC])|((with_reducible refine qJ ?_);refine AtAppend.go (enc:=wy) H rfl rfl rfl rfl rfl (by decide) (by decide) rfl pk rfl (H.at pk) [(fr,q)] rfl (by simp [zU,wy]) ws QV (by simp;omega) ?_;clear H;intro ad9 cp9 _ H;simp only [Act.put,puA,puB,puC]));refine ⟨⟨i+1,i+1,sts++[(fr,q)],by go_num,by go_num,by rw [HN.out];omega,?_,by first|omega|(simp;omega),fun _=>rfl,H.onlyHead⟩,by simp [intOf];omega⟩;have:=HI.out.cut HK0.out HNE.out;rw [← HQ.out] at this;rw [if_pos (by omega)] at this;exact this
    ·go_wp2_with (first|refine sL ?_|(refine sS ?_;clear H;intros;rename_i H));refine zG H 17 [] [] (by kernel_rfl) (by kernel_rfl) ?_;apply Exists.intro;refine ⟨fun w1 hw1 HX=>?_,fun bs wr Hr=>?_⟩
     ·refine sG ?_;repeat (first|go_big_quiet_skip|refine sQ ?_|fail|go_big_quiet_step (fail))
      exact wpQuiet_nil rfl
     clear H;have H:=Hr;clear Hr;replace H:=sH H;refine sT ?_;go_wp2_with (first|refine sL ?_|(refine sS ?_;clear H;intros;rename_i H));refine ⟨⟨i+1,i+1,sts,by go_num,by go_num,by rw [HN.out];omega,?_,by first|omega|(simp;omega),fun _=>rfl,H.onlyHead⟩,by simp [intOf];omega⟩;have:=HI.out.cut HK0.out HNE.out;rw [← HQ.out] at this;rw [if_neg (by omega)] at this;exact this
  ·obtain rfl:i=n:=by omega
   obtain rfl:=hend rfl;clear hinv hend;go_wp2_with (first|refine sL ?_|(refine sS ?_;clear H;intros;rename_i H));go_ret;have hi2:=HI.out;have h1:=HN.out;refine ⟨ad3,c3,sts,rfl,?_,fun s hs=>by have:=hi2.two s hs;rw [h1] at this;exact this,by omega,H.onlyHead⟩;rw [← h1] at hi2;exact hi2.done
theorem Zf (f:Nat->Nat->Bool):∀ (l:List Nat) (o:Nat),(qR f o l).length<=l.length
 |[],o=>by simp [qR]
 |[x],o=>by simp [qR]
 |x::y::r,o=>by
  rw [qR];split
  ·have:=Zf f r (o+2);simp;omega
  ·have:=Zf f (y::r) (o+1);simp at this ⊢;omega
theorem allIx_len (f:Nat->Nat->Bool) (l:List Nat) (n:Nat):(wG f l n).length<=n:=by
 have:=List.length_filter_le (vM f l) (zk n);simpa [wG] using this
def NtRel (keys:List Nat) (f:Nat->Nat->Bool) (n:Nat) (w:World) (v5 v12:Value) (wr:World):Prop :=
 ∃ (i:Nat),v12=.int .i64 i∧i<=n-1∧St w [] [zc qE 3 1 v5 (wG f keys i)] wr
theorem KF {P:wi} {keys:List Nat} {g c L:Nat} (hL2:2<=L) (hL0:L%2=0) (hLt:L<1152921504606846976) (ht:yQ L=false) (hr:RowIn P encU 1 (.slice (some ⟨g,0,none⟩) keys.length c) keys) (hk0:∀ k∈keys,k<2305843009213693951) (hlen:keys.length<=65536) (h1:1<=keys.length) (w:World) (hp:(qX P).ho w) :
  Calls zb 99 #[.slice (some ⟨g,0,none⟩) keys.length c,.int .i64 L] w fun e w'=>∃ ad cp,e=.returned (.slice ad (qR (fun x y=>yt x y L) 0 keys).length cp)∧St w [] [zc qE 3 1 (.slice ad (qR (fun x y=>yt x y L) 0 keys).length cp) (qR (fun x y=>yt x y L) 0 keys)] w':=by
 have HK:=Ks.one hp;have HR:=zh hr;have H:=(St.nil w []).empty (A:=zc qE 3 1 (.slice none 0 0) []) (qq w) (by rw [qS];rfl);have HPI:=zh (Qx (fun x y=>yt x y L) (fun x y z h=>Kl ht x y z h) keys 0);have hne:(L/2-1)%123≠122:=fun e=>by unfold yQ at ht;simp [e] at ht;omega
 have HF:Hid (∀ x y,yt x y L=(decide (x/2 ^ ((L/2-1)%123/2)%2=(L/2-1)%123%2)&&decide (y/2 ^ ((L/2-1)%123/2)%2=1-(L/2-1)%123%2))):=zh fun x y=>by
  unfold yt;rw [if_neg (by omega),if_neg hne]
 have HN0:Hid (∀ w,Calls zb 125 #[.int .i64 L] w fun e w'=>e=.returned (.tuple #[.int .i64 ((L/2-1)%123/2:Nat),.int .u64 ((L/2-1)%123%2:Nat),.bool false])∧w'=w):=zh fun w=>by
  have:=XY L hLt w;unfold KC at this;rw [if_neg (by omega),if_neg hne] at this;exact this
 have hbit:(L/2-1)%123/2<62:=(by omega);have hfst:(L/2-1)%123%2<2:=qM _ (by omega);generalize hf:(fun x y=>yt x y L)=f at *;have HFF:Hid (∀ x y,f x y=yt x y L):=zh fun x y=>by rw [← hf]
 generalize (L/2-1)%123/2=bt at *;generalize (L/2-1)%123%2=fs at *;obtain ⟨n,hn⟩:∃ n,keys.length=n:=⟨_,rfl⟩
 have HN:=zh hn;have HK61:=zh hk0;rw [hn] at hlen h1 ⊢;rw [hn] at HR HPI;have hg1:decide ((L:Int)<2)=false:=(by simp;omega);have hg2:((L:Int)%2==0)=true:=(by simp;omega);have hg3:((L:Int)%2 != 0)=false:=(by simp;omega);clear hr hp hn hk0 hf hne ht;go_enter Tryz.func99,Tryz.ntmps99;go_wp2_with (first|refine sL ?_|(refine sS ?_;clear H;intros;rename_i H)|(go_at_call 125;with_reducible refine same (HN0.out _) ?_))
 go_loopw [5,12] (fun v5 v12 wr=>NtRel keys f n w v5 v12 wr) (fun _ v12 _=>n-(intOf v12).toNat)
 case atStart=>exact ⟨0,rfl,qy _,by simpa [wG] using H⟩
 case round =>
  clear H;obtain ⟨i,rfl,hi,H⟩:=hrel;obtain ⟨ad5,c5,rfl,_⟩:=zE (H.get Pick.here);have hal:=allIx_len f keys i;by_cases hnx:i+1<n
  ·obtain ⟨x,hx⟩:∃ x,keys[i]?=some x:=⟨_,zg (by rw [HN.out];omega)⟩
   obtain ⟨y,hy⟩:∃ y,keys[i+1]?=some y:=⟨_,zg (by rw [HN.out];omega)⟩
   have HC:Hid (∀ w,(qX P).ho w->w.cell? ⟨g,i,none⟩=some (.int .u64 x)):=zh fun w h=>by
    have:=HR.out.cell h QW hx rfl;simpa using this
   have HC1:Hid (∀ w,(qX P).ho w->w.cell? ⟨g,i+1,none⟩=some (.int .u64 y)):=zh fun w h=>by
    have:=HR.out.cell h QW hy rfl;simpa using this
   have hx61:=HK61.out x (zy hx);have hy61:=HK61.out y (zy hy);have e1:=vK x bt (by omega);have e2:=vK y bt (by omega);have hfa:vM f keys i=(decide (x/2 ^ bt%2=fs)&&decide (y/2 ^ bt%2=1-fs)):=by
    unfold vM;rw [hx,hy];simp only;rw [HFF.out,HF.out]
   have hix:=allIx_succ f keys i;rw [hfa] at hix;have hxb:x/2 ^ bt%2<2:=qM _ (by omega);have hyb:y/2 ^ bt%2<2:=qM _ (by omega);generalize x/2 ^ bt%2=xb at *;generalize y/2 ^ bt%2=yb at *;clear hfa hx hy;by_cases hxf:xb=fs
   ·have d1:((xb:Int)==(fs:Int))=true:=(by simp;omega);by_cases hyf:yb=1-fs
    ·have d2:((yb:Int) != (fs:Int))=true:=(by simp;omega);have HIX:Hid (wG f keys (i+1)=wG f keys i++[i]):=zh (by rw [hix];simp [hxf,hyf]);clear hix hxf hyf;generalize hA:wG f keys i=al at *;clear hA;go_wp2_with (first|refine sL ?_|(refine sS ?_;clear H;intros;rename_i H)|((with_reducible refine qh ?_);first|(refine AtLoad.cel rfl rfl rfl rfl (HC.out _ (H.known HK pk)) ?_;simp only [Act.put,puA,puB,puC])|(refine AtLoad.cel rfl rfl rfl rfl (HC1.out _ (H.known HK pk)) ?_;simp only [Act.put,puA,puB,puC]))|((with_reducible refine qV ?_);refine AtSlice.one H rfl rfl rfl rfl rfl rfl rfl rfl rfl ?_;clear H;intro b _ H;simp only [Act.put,puA,puB,puC])|((with_reducible refine qJ ?_);refine AtAppend.go (enc:=qE) H rfl rfl rfl rfl rfl (by decide) (by decide) rfl pk rfl (H.at pk) [i] rfl (by simp [zU,qE]) ya wu (by simp;omega) ?_;clear H;intro ad9 cp9 _ H;simp only [Act.put,puA,puB,puC]));refine ⟨⟨i+1,by go_num,by omega,?_⟩,by simp [intOf];omega⟩;rw [HIX.out];exact H.onlyHead
    ·have d2:((yb:Int) != (fs:Int))=false:=(by simp;omega);have HIX:Hid (wG f keys (i+1)=wG f keys i):=zh (by rw [hix];simp [hxf,hyf]);clear hix hxf hyf;go_wp2_with (first|refine sL ?_|(refine sS ?_;clear H;intros;rename_i H)|((with_reducible refine qh ?_);first|(refine AtLoad.cel rfl rfl rfl rfl (HC.out _ (H.known HK pk)) ?_;simp only [Act.put,puA,puB,puC])|(refine AtLoad.cel rfl rfl rfl rfl (HC1.out _ (H.known HK pk)) ?_;simp only [Act.put,puA,puB,puC])));refine ⟨⟨i+1,by go_num,by omega,?_⟩,by simp [intOf];omega⟩;rw [HIX.out];exact H.onlyHead
   ·have d1:((xb:Int)==(fs:Int))=false:=(by simp;omega);have HIX:Hid (wG f keys (i+1)=wG f keys i):=zh (by rw [hix];simp [hxf]);clear hix hxf;go_wp2_with (first|refine sL ?_|(refine sS ?_;clear H;intros;rename_i H)|((with_reducible refine qh ?_);first|(refine AtLoad.cel rfl rfl rfl rfl (HC.out _ (H.known HK pk)) ?_;simp only [Act.put,puA,puB,puC])|(refine AtLoad.cel rfl rfl rfl rfl (HC1.out _ (H.known HK pk)) ?_;simp only [Act.put,puA,puB,puC])));refine ⟨⟨i+1,by go_num,by omega,?_⟩,by simp [intOf];omega⟩;rw [HIX.out];exact H.onlyHead
  ·obtain rfl:i=n-1:=by omega
   have HE:Hid (wG f keys (n-1)=qR f 0 keys):=zh (by rw [HPI.out];simp);clear hal;rw [HE.out] at H;have hnn:((n-1:Nat):Int)+1=(n:Int):=(by omega);generalize n-1=m at *;simp only [HE.out];go_wp2_with (first|refine sL ?_|(refine sS ?_;clear H;intros;rename_i H));go_ret;exact ⟨ad5,c5,rfl,H.onlyHead⟩
theorem Wb {sts:List (Nat×Nat)} {l:List Nat} (h:qR eqB 0 l=sts.flatMap jK) (j:Nat):((sts.take j).flatMap jK).length<=l.length:=by
 have h1:=Zf eqB l 0;rw [h] at h1;have h2:(sts.flatMap jK).length=((sts.take j).flatMap jK).length+((sts.drop j).flatMap jK).length:=by
  rw [← zi,← zI,List.take_append_drop]
 omega
def TieRel (sts:List (Nat×Nat)) (sv:Value) (w:World) (v5 v30:Value) (wr:World):Prop :=
 ∃ (j:Nat),v30=.int .i64 j∧j<=sts.length∧St w [] [zc qE 3 1 v5 ((sts.take j).flatMap jK),zc wy 222 2 sv sts] wr
def TieIn (sts:List (Nat×Nat)) (sv:Value) (w:World) (pre:List Nat) (fr q b:Nat) (v5 v11:Value) (wr:World):Prop :=
 ∃ (t:Nat),v11=.int .i64 ((2*t:Nat):Int)∧t<=q/2∧St w [] [zc qE 3 1 v5 (pre++(zk t).map fun j=>fr+2*j),zc wy 222 2 sv sts,blk b (.cells #[.int .i64 fr,.int .i64 q] 222)] wr
theorem St.only3' {w0 w:World} {M:List Nat} {L R R' R'':List As} {A B C:As} (h:St w0 M L w) (h1:Pick L A R) (h2:Pick R B R') (h3:Pick R' C R''):St w0 M [A,B,C] w:=by
 have h':=h.pick3 h1 h2 h3;exact ⟨h'.os,h'.tape,h'.output,h'.size,h'.keep,fun Z hZ=>h'.ho Z (by simp at hZ ⊢;rcases hZ with rfl|rfl|rfl <;> simp),fun Z hZ=>h'.own Z (by simp at hZ ⊢;rcases hZ with rfl|rfl|rfl <;> simp),h'.dis.sublist (by simp)⟩
theorem St.only2 {w0 w:World} {M:List Nat} {L R R':List As} {A B:As} (h:St w0 M L w) (h1:Pick L A R) (h2:Pick R B R'):St w0 M [A,B] w:=(h.pick2 h1 h2).onlyTwo
theorem pairs_tie {P:wi} {keys:List Nat} {g c L:Nat} (hL2:2<=L) (hL0:L%2=0) (hLt:L<1152921504606846976) (ht:yQ L=true) (hr:RowIn P encU 1 (.slice (some ⟨g,0,none⟩) keys.length c) keys) (hlen:keys.length<=65536) (w:World) (hp:(qX P).ho w) :
  Calls zb 99 #[.slice (some ⟨g,0,none⟩) keys.length c,.int .i64 L] w fun e w'=>∃ ad cp,e=.returned (.slice ad (qR eqB 0 keys).length cp)∧St w [] [zc qE 3 1 (.slice ad (qR eqB 0 keys).length cp) (qR eqB 0 keys)] w':=by
 have HK:=Ks.one hp;have H:=(St.nil w []).empty (A:=zc qE 3 1 (.slice none 0 0) []) (qq w) (by rw [qS];rfl);have hc:(L/2-1)%123=122:=(by unfold yQ at ht;simp at ht;omega);have HN0:Hid (∀ w,Calls zb 125 #[.int .i64 L] w fun e w'=>e=.returned (.tuple #[.int .i64 0,.int .u64 0,.bool true])∧w'=w):=zh fun w=>by
  have:=XY L hLt w;unfold KC at this;rw [if_neg (by omega),if_pos hc] at this;exact this
 have HST:Hid (∀ w,(qX P).ho w->Calls zb 126 #[.slice (some ⟨g,0,none⟩) keys.length c] w fun e w'=>∃ ad cp sts,e=.returned (.slice ad sts.length cp)∧qR eqB 0 keys=sts.flatMap jK∧(∀ s∈sts,2<=s.2∧s.1+s.2<=keys.length)∧sts.length<=keys.length∧St w [] [zc wy 222 2 (.slice ad sts.length cp) sts] w'):=zh fun w h=>VX hr hlen w h
 obtain ⟨n,hn⟩:∃ n,keys.length=n:=⟨_,rfl⟩
 have HN:=zh hn;rw [hn] at HST hlen ⊢;have hg1:decide ((L:Int)<2)=false:=(by simp;omega);have hg2:((L:Int)%2==0)=true:=(by simp;omega);have hg3:((L:Int)%2 != 0)=false:=(by simp;omega);clear hr hp hn ht hc;go_enter Tryz.func99,Tryz.ntmps99;go_wp2_with (first|refine sL ?_|(refine sS ?_;clear H;intros;rename_i H)|(go_at_call 125;with_reducible refine same (HN0.out _) ?_)|(go_at_call 126;with_reducible refine zm (HST.out _ (H.known HK pk)) ?_;rintro e wc ⟨ads,cps,sts,rfl,hix,htwo,hsl,hb⟩;replace H:=zn (H.call0 hb);clear hb;have HIX:=zh hix;have HTW:=zh htwo;clear hix htwo))
 go_loopw [5,30] (fun v5 v30 wr=>TieRel sts (.slice ads sts.length cps) w v5 v30 wr) (fun _ v30 _=>sts.length-(intOf v30).toNat)
 case atStart=>exact ⟨0,rfl,qy _,H.only2 (A:=zc qE 3 1 (.slice none 0 0) []) (B:=zc wy 222 2 (.slice ads sts.length cps) sts) pk pk⟩
 case round =>
  clear H;obtain ⟨j,rfl,hj,H⟩:=hrel;obtain ⟨ad5,c5,rfl,_⟩:=zE (H.get Pick.here);have hfl:=Wb HIX.out j;rw [HN.out] at hfl;by_cases hlt:j<sts.length
  ·obtain ⟨⟨fr,q⟩,hs⟩:∃ s,sts[j]?=some s:=⟨_,zg hlt⟩
   have h2:=HTW.out (fr,q) (zy hs);simp only [HN.out] at h2;obtain ⟨gs,c9,e9,_,_⟩:=q8 (H.get (A:=zc wy 222 2 (.slice ads sts.length cps) sts) pk) (by omega);injection e9 with e9 _ e8
   subst e9;subst e8;have HS:=zh hs;have htk:(sts.take (j+1)).flatMap jK=(sts.take j).flatMap jK++jK (fr,q):=(by rw [x5,hs];simp);have HTK:=zh htk;have hfl2:=Wb HIX.out (j+1);rw [HN.out,htk,zi] at hfl2;have hstl:(jK (fr,q)).length=q/2:=(by simp [jK]);rw [hstl] at hfl2;clear htk hs hstl;generalize (sts.take j).flatMap jK=pre at *;go_wp2_with (first|refine sL ?_|(refine sS ?_;clear H;intros;rename_i H)|((with_reducible refine qh ?_);first|(refine AtLoad.rngT (vs:=[.int .i64 fr,.int .i64 q]) rfl rfl rfl (wd (H.get (A:=zc wy 222 2 (.slice (some ⟨gs,0,none⟩) sts.length cps) sts) pk) ws HS.out) rfl ?_;simp only [Act.put,puA,puB,puC])));rename_i bb _ _ _
   go_loopw [5,11] (fun v5 v11 wr=>TieIn sts (.slice (some ⟨gs,0,none⟩) sts.length cps) w pre fr q bb v5 v11 wr) (fun _ v11 _=>q-(intOf v11).toNat)
   case atStart=>exact ⟨0,rfl,qy _,by simpa using H.only3' (A:=zc qE 3 1 (.slice ad5 pre.length c5) pre) (B:=zc wy 222 2 (.slice (some ⟨gs,0,none⟩) sts.length cps) sts) (C:=blk bb (.cells #[.int .i64 fr,.int .i64 q] 222)) pk pk pk⟩
   case round =>
    clear H;obtain ⟨t,rfl,htq,H⟩:=hrel;obtain ⟨ad6,c6,rfl,_⟩:=zE (H.get Pick.here);have hlr:((zk t).map fun j=>fr+2*j).length=t:=(by simp);by_cases hin:2*t+1<q
    ·have hsucc:((zk (t+1)).map fun j=>fr+2*j)=((zk t).map fun j=>fr+2*j)++[fr+2*t]:=(by rw [vh];simp);have HSU:=zh hsucc;clear hsucc;generalize ((zk t).map fun j=>fr+2*j)=ev at *;obtain ⟨k2,hk2⟩:∃ k2,k2=2*t:=⟨_,rfl⟩
     have HK2:=zh hk2;rw [← hk2] at hin ⊢;have hk65:k2<=65536:=(by omega);have hall:(pre++ev).length<=65536:=(by rw [zi];omega);generalize hPE:pre++ev=pe at *;have HPE:=zh hPE;clear hk2 hPE hlr;go_wp2_with (first|refine sL ?_|(refine sS ?_;clear H;intros;rename_i H)|((with_reducible refine qV ?_);refine AtSlice.one H rfl rfl rfl rfl rfl rfl rfl rfl rfl ?_;clear H;intro b _ H;simp only [Act.put,puA,puB,puC])|((with_reducible refine qJ ?_);refine AtAppend.go (enc:=qE) H rfl rfl rfl rfl rfl (by decide) (by decide) rfl pk rfl (H.at pk) [fr+k2] rfl (by simp [zU,qE]) ya wu (by simp;omega) ?_;clear H;intro ad9 cp9 _ H;simp only [Act.put,puA,puB,puC]));refine ⟨⟨t+1,by have:=HK2.out;go_num <;> omega,by have:=HK2.out;omega,?_⟩,by simp [intOf];omega⟩;rw [HSU.out,← HK2.out,← zQ,HPE.out];exact H.only3' (A:=zc qE 3 1 (.slice ad9 (pe.length+1) cp9) (pe++[fr+k2])) (B:=zc wy 222 2 (.slice (some ⟨gs,0,none⟩) sts.length cps) sts) (C:=blk bb (.cells #[.int .i64 fr,.int .i64 q] 222)) pk pk pk
    ·have htq2:t=q/2:=(by omega);have hst:((zk t).map fun j=>fr+2*j)=jK (fr,q):=(by rw [htq2];rfl);rw [hst] at H;rw [hst] at hlr;simp only [hst];have HLR:=zh hlr;obtain ⟨k2,hk2⟩:∃ k2,k2=2*t:=⟨_,rfl⟩
     rw [← hk2] at hin ⊢;have hk65:k2<=65536:=(by omega);clear hst hlr hk2;go_wp2_with (first|refine sL ?_|(refine sS ?_;clear H;intros;rename_i H));refine ⟨⟨j+1,by go_num,by omega,?_⟩,by simp [intOf];omega⟩;rw [HTK.out];exact H.only2 (A:=zc qE 3 1 (.slice ad6 (pre++jK (fr,q)).length c6) (pre++jK (fr,q))) (B:=zc wy 222 2 (.slice (some ⟨gs,0,none⟩) sts.length cps) sts) pk pk
  ·obtain rfl:j=sts.length:=by omega
   rw [jx,← HIX.out] at H;simp only [jx,← HIX.out];go_wp2_with (first|refine sL ?_|(refine sS ?_;clear H;intros;rename_i H));go_ret;exact ⟨ad5,c5,rfl,H.onlyHead⟩
theorem pairs_c {P:wi} {keys:List Nat} {g c L:Nat} (hL2:2<=L) (hL0:L%2=0) (hLt:L<1152921504606846976) (hr:RowIn P encU 1 (.slice (some ⟨g,0,none⟩) keys.length c) keys) (hk0:∀ k∈keys,k<2305843009213693951) (hlen:keys.length<=65536) (h1:1<=keys.length) (w:World) (hp:(qX P).ho w) :
  Calls zb 99 #[.slice (some ⟨g,0,none⟩) keys.length c,.int .i64 L] w fun e w'=>∃ ad cp,e=.returned (.slice ad (qR (fun x y=>yt x y L) 0 keys).length cp)∧St w [] [zc qE 3 1 (.slice ad (qR (fun x y=>yt x y L) 0 keys).length cp) (qR (fun x y=>yt x y L) 0 keys)] w':=by
 cases ht:yQ L with
 |false=>exact KF hL2 hL0 hLt ht hr hk0 hlen h1 w hp
 |true =>
  have e:(fun x y=>yt x y L)=eqB:=(by funext x y;exact fitsN_tie ht x y);rw [e];exact pairs_tie hL2 hL0 hLt ht hr hlen w hp
end
section
open Go.RowKit
structure GS where
 D:List Nat
 R:Value->List Value->Prop
def gAt (Ss:List GS) (k:Nat):GS:=Ss.getD k ⟨[],fun _ _=>True⟩
def ZJ (Ss:List GS) (vals:Nat->Value) (k:Nat):Prop:=(gAt Ss k).R (vals k) ((gAt Ss k).D.map vals)
def cAt (Cs:List ((Nat->Value)->World->Prop)) (s:Nat) (vals:Nat->Value) (w:World):Prop:=Cs.getD s (fun _ _=>True) vals w
def upV (vals:Nat->Value) (k:Nat) (v:Value):Nat->Value:=fun i=>if i=k then v else vals i
theorem VY (vals:Nat->Value) (k:Nat) (v:Value):upV vals k v k=v:=by simp [upV]
theorem upV_ne (vals:Nat->Value) {k i:Nat} (v:Value) (h:i≠k):upV vals k v i=vals i:=by simp [upV,h]
def Jp (ops:Array Oper) (Bs:List Nat) (k s:Nat):Bool:=Bs.zipIdx.all fun p=>(!x9 ops ops.size k p.1 || decide (p.2<s))&&(!x9 ops ops.size p.1 k || decide (s<=p.2))&&(decide (p.1≠k) || decide (s=p.2))
def sgB (ops:Array Oper) (m:Nat) (Ss:List GS) (Bs:List Nat) (SL:List (List Nat)):Bool :=
 Wg ops m&&((zk m).all fun k=>(gAt Ss k).D.all fun i=>decide (i<m)&&x9 ops ops.size k i)&&(Bs.all fun b=>decide (b<m)) &&
 ((zk Bs.length).all fun j=>(zk j).all fun i=>x9 ops ops.size (Bs.getD j 0) (Bs.getD i 0)) &&
 ((zk m).all fun k=>(zk (Bs.length+1)).all fun s=>!Jp ops Bs k s || (SL.getD k []).contains s)
theorem feas_spec {ops:Array Oper} {Bs:List Nat} {k s:Nat} (h:∀ i b,Bs[i]?=some b->(x9 ops ops.size k b=true->i<s)∧(x9 ops ops.size b k=true->s<=i)∧(b=k->s=i)):Jp ops Bs k s=true:=by
 unfold Jp;rw [zF];rintro ⟨b,i⟩ hp;have hb:Bs[i]?=some b:=by
  have:=List.mem_zipIdx hp;simp at this;rw [xB];exact ⟨this.1,this.2.symm⟩
 obtain ⟨h1,h2,h3⟩:=h i b hb;simp only [zu,vg,Zv,decide_eq_true_eq];refine ⟨⟨?_,?_⟩,?_⟩
 ·cases hr:x9 ops ops.size k b with
  |false=>exact .inl rfl
  |true=>exact .inr (h1 hr)
 ·cases hr:x9 ops ops.size b k with
  |false=>exact .inl rfl
  |true=>exact .inr (h2 hr)
 ·by_cases e:b=k
  ·exact .inr (h3 e)
  ·exact .inl e
section
variable {P:Program} {ops:Array Oper}
theorem wpAny_sg {m:Nat} {Ss:List GS} {Bs:List Nat} {SL:List (List Nat)} {Cs:List ((Nat->Value)->World->Prop)} (hB:sgB ops m Ss Bs SL=true) {Q:Exit->Act->World->Prop} (a0:Act)
  (step:∀ k o,k<m->ops[k]?=some o->∀ s,s∈SL.getD k []->∀ vals w,(∀ i∈(gAt Ss k).D,ZJ Ss vals i)->cAt Cs s vals w ->
   StStep P ops o (zZ ops vals (qm ops k) a0) w fun v w'=>(gAt Ss k).R v ((gAt Ss k).D.map vals)∧cAt Cs (if Bs.contains k then s+1 else s) (upV vals k v) w')
  (fin:∀ vals w,(∀ i,i<m->ZJ Ss vals i)->cAt Cs Bs.length vals w->wpAny P .any ops Q (ops.size-m) (wJ ops.size m) (zZ ops vals (zk m) a0) w) :
  ∀ (d:Nat) (order:List Nat) (listed:Array Bool) (vals:Nat->Value) (s:Nat) (w:World),d+order.length=m->order.Nodup->(∀ i∈order,i<m)->listed.size=ops.size ->
   (∀ j,j<ops.size->listed[j]?=some (decide (j∈order)))->s<=Bs.length->(∀ i b,Bs[i]?=some b->(b∈order↔i<s))->cAt Cs s vals w->(∀ i∈order,ZJ Ss vals i) ->
   (∀ k∈order,∀ o,ops[k]?=some o->∀ e∈o.after,Region.binds .any e=true->e.on∈order) ->
   wpAny P .any ops Q (ops.size-order.length) listed (zZ ops vals order a0) w:=by
 simp only [sgB,zu] at hB;obtain ⟨⟨⟨⟨hB1,hBD⟩,hBm⟩,hBc⟩,hBf⟩:=hB;have hok:jy ops m []:=jV hB1;have hSD:∀ k,k<m->∀ i∈(gAt Ss k).D,x9 ops ops.size k i=true:=fun k hk i hi=>by
  have:=zF.1 (zF.1 hBD k (zJ.2 hk)) i hi;simp only [zu] at this;exact this.2
 have hbm:∀ (i b:Nat),Bs[i]?=some b->b<m:=fun i b hb=>by simpa using zF.1 hBm b (zy hb)
 have hchain:∀ (i j b c:Nat),i<j->Bs[i]?=some b->Bs[j]?=some c->x9 ops ops.size c b=true:=fun i j b c hij hb hc=>by
  have hj:j<Bs.length:=(xB.1 hc).1;have:=zF.1 (zF.1 hBc j (zJ.2 hj)) i (zJ.2 hij);simpa [Zn,hb,hc] using this
 have hfeas:∀ k s,k<m->s<=Bs.length->Jp ops Bs k s=true->s∈SL.getD k []:=fun k s hk hs h=>by
  have:=zF.1 (zF.1 hBf k (zJ.2 hk)) s (zJ.2 (by omega));simpa [h] using this
 intro d;induction d with
 |zero =>
  intro order listed vals s w hd hn hlt hsz hl hs hst hg hR hC;have hlen:order.length=m:=(by omega);have hall:=(kD hn hlt).2 hlen;have e1:listed=wJ ops.size m:=by
   apply yr;intro j;by_cases hj:j<ops.size
   ·rw [hl j hj,ZW _ _ _ hj];congr 1
    have:(j∈order)↔j<m:=⟨hlt j,hall j⟩
    simp [this]
   ·rw [qw (by omega),qw (by rw [Z8];omega)]
  have e2:zZ ops vals order a0=zZ ops vals (zk m) a0:=by
   have ht:(zZ ops vals order a0).tmps=(zZ ops vals (zk m) a0).tmps:=by
    apply yr;intro t;exact vV vals t (fun i j=>hok.uniq i j t) _ _ _ fun i _=>by rw [zJ];exact ⟨hlt i,hall i⟩
   have hdf:(zZ ops vals order a0).defers=(zZ ops vals (zk m) a0).defers:=(by rw [yR,yR]);generalize zZ ops vals order a0=x at *;generalize zZ ops vals (zk m) a0=y at *;cases x;cases y;simp only at ht hdf;subst ht hdf;rfl
  rw [e1,e2,hlen];have hsl:s=Bs.length:=by
   rcases yI s Bs.length with h|h
   ·obtain ⟨b,hb⟩:∃ b,Bs[s]?=some b:=⟨_,zg h⟩
    have:=(hst s b hb).1 (hall b (hbm s b hb));omega
   ·omega
  rw [hsl] at hg;exact fin vals w (fun i hi=>hR i (hall i hi)) hg
 |succ d ih =>
  intro order listed vals s w hd hn hlt hsz hl hs hst hg hR hC;have hm:m<=ops.size:=hok.le;obtain ⟨f,hf⟩:∃ f,ops.size-order.length=f+1:=⟨ops.size-order.length-1,by omega⟩
  rw [hf];have hex:∃ i,i<m∧i ∉ order:=Classical.byContradiction fun h=>by
   have:∀ i,i<m->i∈order:=fun i hi=>Classical.byContradiction fun h'=>h ⟨i,hi,h'⟩
   have:=kC this;omega
  have hT:∀ j,listed.getD j false=true->j∈order:=fun j hj=>by
   by_cases hj2:j<ops.size
   ·rw [zD,hl j hj2] at hj;simpa using hj
   ·rw [zD,qw (by omega)] at hj;simp at hj
  have hF:∀ j,j<ops.size->listed.getD j true=false->j ∉ order:=fun j hj2 hj=>by
   rw [zD,hl j hj2] at hj;simpa using hj
  refine ⟨fun h0=>?_,fun j hj=>?_⟩
  ·exfalso;obtain ⟨i,hi,hno⟩:=hex;have:∀ i,i<m->i ∉ order->False:=fun i=>by
    induction i using yJ with
    |_ i ihi =>
     intro hi hno;obtain ⟨o,ho⟩:∃ o,ops[i]?=some o:=⟨ops[i],by simp⟩
     have hr:i∈Region.ready .any ops listed:=mem_ready.2 ⟨by rw [zD,hl i (by omega)];simp [hno],o,ho,fun e he hb=>by
      have hlt':=hok.back i o ho e he hb;by_cases hin:e.on∈order
      ·rw [zD,hl _ (by omega)];simp [hin]
      ·exact (ihi e.on hlt' (by omega) hin).elim⟩
     rw [h0] at hr;cases hr
   exact this i hi hno
  ·obtain ⟨hun,o,ho,hall⟩:=mem_ready.1 hj;have hjn:j<ops.size:=(yV.1 ho).1;have hjo:j ∉ order:=hF j hjn hun;have hjm:j<m:=by
    rcases yI j m with h|h
    ·exact h
    ·obtain ⟨i,hi,hno⟩:=hex;exact absurd (jE hC ops.size j i o ho (fun e he hb=>hT e.on (hall e he hb)) (hok.tail j o ho h i (by omega) (by simp))) hno
   have hreach:∀ i,x9 ops ops.size j i=true->i∈order:=fun i h=>jE hC ops.size j i o ho (fun e he hb=>hT e.on (hall e he hb)) h
   have hreach':∀ k∈order,∀ i,x9 ops ops.size k i=true->i∈order:=fun k hk i h=>by
    have hkm:=hlt k hk;obtain ⟨ok,hok'⟩:∃ ok,ops[k]?=some ok:=⟨ops[k],by simp⟩
    exact jE hC ops.size k i ok hok' (hC k hk ok hok') h
   have hdeps:∀ i∈qm ops j,i∈order:=fun i hi=>by
    obtain ⟨e,he,hb,hon⟩:=hok.deps j o ho i hi;exact hT i (by rw [← hon];exact hall e he hb)
   obtain ⟨hex1,hw1⟩:=jT hok ho vals order a0 hdeps (XK hC hjo);have hinD:∀ i∈(gAt Ss j).D,i∈order:=fun i hi=>hreach i (hSD j hjm i hi)
   have hDj:∀ i∈(gAt Ss j).D,i≠j:=fun i hi e=>hjo (e ▸ hinD i hi)
   have hfe0:Jp ops Bs j s=true:=feas_spec fun i b hb=>by
    refine ⟨fun h=>(hst i b hb).1 (hreach b h),fun h=>?_,fun h=>?_⟩
    ·rcases yI i s with hi|hi
     ·exact absurd (hreach' b ((hst i b hb).2 hi) j h) hjo
     ·exact hi
    ·subst h;rcases Nat.lt_trichotomy i s with hi|hi|hi
     ·exact absurd ((hst i b hb).2 hi) hjo
     ·exact hi.symm
     ·have hil:i<Bs.length:=(xB.1 hb).1;obtain ⟨c,hc⟩:∃ c,Bs[s]?=some c:=⟨_,zg (by omega)⟩
      have:=(hst s c hc).1 (hreach c (hchain s i c b hi hc hb));omega
   have hfe:s∈SL.getD j []:=hfeas j s hjm hs hfe0;have hstep:=step j o hjm ho s hfe vals w (fun i hi=>hR i (hinD i hi)) hg;have next:∀ v w',(gAt Ss j).R v ((gAt Ss j).D.map vals)->cAt Cs (if Bs.contains j then s+1 else s) (upV vals j v) w' ->
     wpAny P .any ops Q f (listed.setIfInBounds j true) ((zZ ops vals order a0).put o.dst v) w':=fun v w' hRv hst'=>by
    have hne:∀ i∈order,upV vals j v i=vals i:=fun i hi=>upV_ne vals v fun e=>hjo (e ▸ hi)
    have hmapD:∀ k,k=j∨k∈order->(gAt Ss k).D.map (upV vals j v)=(gAt Ss k).D.map vals:=fun k hk=>Ym fun i hi=>by
     rcases hk with rfl|hk
     ·exact hne i (hinD i hi)
     ·exact hne i (hreach' k hk i (hSD k (hlt k hk) i hi))
    have hp:(zZ ops vals order a0).put o.dst v=zZ ops (upV vals j v) (order++[j]) a0:=by
     rw [k7,xW order a0 hne];simp [y8,ho,VY]
    rw [hp];have hf':f=ops.size-(order++[j]).length:=(by simp;omega);rw [hf'];have hnew:(if Bs.contains j then s+1 else s)<=Bs.length∧∀ i b,Bs[i]?=some b->(b∈order++[j]↔i<if Bs.contains j then s+1 else s):=by
     by_cases hbj:j∈Bs
     ·obtain ⟨t,ht⟩:=List.getElem?_of_mem hbj;have hts:t=s:=by
       have hfe2:=hfe0;unfold Jp at hfe2;rw [zF] at hfe2;have:=hfe2 (j,t) (by rw [Yi];exact ⟨t,by simp [List.getElem?_zipIdx,ht]⟩);simp only [zu,vg,decide_eq_true_eq] at this;rcases this.2 with h|h
       ·exact absurd rfl h
       ·exact h.symm
      subst hts;have htl:t<Bs.length:=(xB.1 ht).1;simp only [w6,hbj,decide_true,if_true];refine ⟨by omega,fun i b hb=>?_⟩;rw [zl,hst i b hb];simp only [Zx];constructor
      ·rintro (h|h)
       ·omega
       ·subst h;rcases Nat.lt_trichotomy i t with hi|hi|hi
        ·omega
        ·omega
        ·have:=hreach _ (hchain t i b b hi ht hb);exact absurd this hjo
      ·intro h;rcases yI i t with hi|hi
       ·exact .inl hi
       ·have:i=t:=by omega
        subst this;exact .inr (yk.inj (hb.symm.trans ht))
     ·simp only [w6,hbj,decide_false,if_false,xA];refine ⟨hs,fun i b hb=>?_⟩;rw [zl,hst i b hb];simp only [Zx];exact ⟨fun h=>by
       rcases h with h|h
       ·exact h
       ·subst h;exact absurd (zy hb) hbj,.inl⟩
    refine ih (order++[j]) _ _ _ w' (by simp;omega) (yT.2 ⟨hn,by simp,fun x hx y hy=>by simp at hy;rintro rfl;exact hjo (hy ▸ hx)⟩)
     (fun i hi=>?_) (by simpa using hsz) (fun i hi=>?_) hnew.1 hnew.2 hst' (fun i hi=>?_) (fun k hk o' ho' e he hb=>?_)
    ·simp at hi;rcases hi with hi|hi
     ·exact hlt i hi
     ·omega
    ·by_cases hij:i=j
     ·subst hij;rw [jI];simp [show i<listed.size by omega]
     ·rw [zz (Ne.symm hij),hl i hi];simp [hij]
    ·simp at hi;have:ZJ Ss (upV vals j v) i=if i=j then (gAt Ss j).R v ((gAt Ss j).D.map vals) else ZJ Ss vals i:=by
      by_cases hij:i=j
      ·subst hij;unfold ZJ;rw [hmapD i (.inl rfl),VY];simp
      ·rcases hi with hi|hi
       ·unfold ZJ;rw [hmapD i (.inr hi),upV_ne vals v hij];simp [hij]
       ·exact absurd hi hij
     rw [this];split
     ·exact hRv
     ·rename_i hij;rcases hi with hi|hi
      ·exact hR i hi
      ·exact absurd hi hij
    ·simp at hk ⊢;rcases hk with hk|hk
     ·exact .inl (hC k hk o' ho' e he hb)
     ·subst hk;obtain rfl:o'=o:=yk.inj (ho'.symm.trans ho);exact .inl (hT e.on (hall e he hb))
   have hs:=hstep;unfold StStep at hs;unfold wpOp;simp only [ho];rw [hw1];split
   ·rename_i hw;rw [if_pos hw] at hs;refine .inl ?_;unfold jw at hs;unfold Oper.wp;rw [hex1];generalize (execOp (zZ ops vals (qm ops j) a0).eval o).run P w=r at hs;cases r with
    |ok n w' =>
     cases n <;> simp only [yM] at hs <;> simp only [Oper.upon]
     case value u=>exact next _ _ hs.1 hs.2
     case skip=>exact next _ _ hs.1 hs.2
     case enter f args=>exact hs.mono fun e w'' ⟨v,he,h1,h2⟩=>by subst he;exact next _ _ h1 h2
    |halt x w'=>simp only [yM] at hs
   ·rename_i hw;rw [if_neg hw] at hs;exact next _ _ hs.1 hs.2
theorem V0 {id:Nat} {Q:Exit->Act->World->Prop} {a:Act} {w:World} {l:List Oper} (m:Nat) (Ss:List GS) (Bs:List Nat) (SL:List (List Nat)) (Cs:List ((Nat->Value)->World->Prop)) (hm:P.follows .mixedOrders=true)
  (hB:(sgB l.toArray m Ss Bs SL&&Region.seqB .any l.toArray (l.length-m) m (wJ l.length m))=true) (H:cAt Cs 0 (fun _=>undef) w.drew)
  (step:∀ k o,k<m->l[k]?=some o->∀ s,s∈SL.getD k []->∀ vals w,(∀ i∈(gAt Ss k).D,ZJ Ss vals i)->cAt Cs s vals w ->
   StStep P l.toArray o (zZ l.toArray vals (qm l.toArray k) a) w fun v w'=>(gAt Ss k).R v ((gAt Ss k).D.map vals)∧cAt Cs (if Bs.contains k then s+1 else s) (upV vals k v) w')
  (fin:∀ vals w,(∀ i,i<m->ZJ Ss vals i)->cAt Cs Bs.length vals w->wpList P l.toArray Q (l.drop m) (zZ l.toArray vals (zk m) a) w):(Code.region id l.toArray true).wp P Q a w:=by
 simp only [zu] at hB;have hB':=hB.1;have hok:jy l.toArray m []:=by
  simp only [sgB,zu] at hB';exact jV hB'.1.1.1.1
 have hle:m<=l.length:=(by simpa using hok.le);refine wp_region_any hm ?_;have:=wpAny_sg (P:=P) (Q:=Q) hB.1 a (fun k o hk ho=>step k o hk (by simpa using ho)) (fun vals w' hR hst=>by
  have:=wpAny_of_seq (P:=P) (md:=.any) (Q':=Q) (l.drop m) m (wJ l.length m) (zZ l.toArray vals (zk m) a) w' (fun j=>by simp [yh]) (by simpa using hB.2) (fin vals w' hR hst);simpa using this) m [] (J7 l.length false) (fun _=>undef) 0 { w with drawn:=w.drawn+1 } (by simp) (by simp) (by simp) (by simp) (fun j hj=>by
   have hj':j<l.length:=(by simpa using hj);simp [hj']) (by simp) (by simp) (by simpa using H) (by simp) (by simp)
 simpa [zZ] using this
def Zw (Ss:List GS) (vals:Nat->Value):List Nat->Prop
 |[]=>True
 |i::is=>ZJ Ss vals i∧Zw Ss vals is
theorem YA {Ss:List GS} {vals:Nat->Value}:∀ {is:List Nat},(∀ i∈is,ZJ Ss vals i)->Zw Ss vals is
 |[],_=>trivial
 |i::is,h=>⟨h i (by simp),YA fun j hj=>h j (by simp [hj])⟩
def GStep (P:Program) (ops:Array Oper) (a:Act) (Ss:List GS) (Cs:List ((Nat->Value)->World->Prop)) (k:Nat) (d:List (Nat×Tmp)) (g:GS) (o:Oper) (big:Bool):List Nat->Prop
 |[]=>True
 |s::ss=>(∀ vals w,Zw Ss vals g.D->cAt Cs s vals w->StStep P ops o (yu d vals a) w fun v w'=>g.R v (g.D.map vals)∧cAt Cs (if big then s+1 else s) (upV vals k v) w')∧GStep P ops a Ss Cs k d g o big ss
theorem Wh {a:Act} {Ss:List GS} {Cs:List ((Nat->Value)->World->Prop)} {k:Nat} {d:List (Nat×Tmp)} {g:GS} {o:Oper} {big:Bool}:∀ {ss:List Nat},GStep P ops a Ss Cs k d g o big ss->∀ s∈ss,∀ vals w,Zw Ss vals g.D->cAt Cs s vals w->StStep P ops o (yu d vals a) w fun v w'=>g.R v (g.D.map vals)∧cAt Cs (if big then s+1 else s) (upV vals k v) w'
 |[],_,s,hs=>by cases hs
 |s0::ss,h,s,hs=>by
  rcases zL.1 hs with rfl|hs
  ·exact h.1
  ·exact Wh h.2 s hs
def Yk (P:Program) (ops:Array Oper) (a:Act) (Ss0:List GS) (Cs:List ((Nat->Value)->World->Prop)) (Bs:List Nat):Nat->List (List (Nat×Tmp))->List GS->List (List Nat)->List Oper->Prop
 |k,d::DS,g::Ss,ss::SL,o::rest=>GStep P ops a Ss0 Cs k d g o (Bs.contains k) ss∧Yk P ops a Ss0 Cs Bs (k+1) DS Ss SL rest
 |_,_,_,_,[]=>True
 |_,_,_,_,_=>False
theorem Xg {a:Act} {Ss0:List GS} {Cs:List ((Nat->Value)->World->Prop)} {Bs:List Nat}:∀ {l:List Oper} {k0:Nat} {DS:List (List (Nat×Tmp))} {Ss:List GS} {SL:List (List Nat)},Yk P ops a Ss0 Cs Bs k0 DS Ss SL l->∀ (k:Nat) (o:Oper),l[k]?=some o ->
  ∃ d g ss,DS[k]?=some d∧Ss[k]?=some g∧SL[k]?=some ss∧GStep P ops a Ss0 Cs (k0+k) d g o (Bs.contains (k0+k)) ss
 |[],_,_,_,_,_,k,o,h=>by simp at h
 |_::_,_,[],_,_,hs,_,_,_=>by simp [Yk] at hs
 |_::_,_,_::_,[],_,hs,_,_,_=>by simp [Yk] at hs
 |_::_,_,_::_,_::_,[],hs,_,_,_=>by simp [Yk] at hs
 |o'::rest,k0,d::DS,g::Ss,ss::SL,hs,0,o,h=>by
  simp at h;subst h;exact ⟨d,g,ss,rfl,rfl,rfl,hs.1⟩
 |o'::rest,k0,d::DS,g::Ss,ss::SL,hs,k+1,o,h=>by
  have:=Xg hs.2 k o (by simpa using h);rw [show k0+(k+1)=k0+1+k by omega];simpa using this
def sgxB (l:List Oper) (m:Nat) (Ss:List GS) (Bs:List Nat) (SL:List (List Nat)) (DS:List (List (Nat×Tmp))) (S:List (Nat×Tmp)):Bool :=
 sgB l.toArray m Ss Bs SL&&Region.seqB .any l.toArray (l.length-m) m (wJ l.length m)&&Zj l.toArray S&&decide (S.map (·.1)=(zk m).filter fun i=>(y8 l.toArray i).isSome) &&
 DS.all (Zj l.toArray)&&decide (DS.map (fun d=>d.map (·.1))=(zk m).map (qm l.toArray))
theorem zM {id:Nat} {Q:Exit->Act->World->Prop} {a:Act} {w:World} {l:List Oper} (m:Nat) (Ss:List GS) (Bs:List Nat) (SL:List (List Nat)) (Cs:List ((Nat->Value)->World->Prop)) (DS:List (List (Nat×Tmp))) (S:List (Nat×Tmp)) (hm:P.follows .mixedOrders=true)
  (hB:sgxB l m Ss Bs SL DS S=true) (H:cAt Cs 0 (fun _=>undef) w.drew) (step:Yk P l.toArray a Ss Cs Bs 0 DS Ss SL (l.take m))
  (fin:∀ vals w,Zw Ss vals (zk m)->cAt Cs Bs.length vals w->wpList P l.toArray Q (l.drop m) (yu S vals a) w):(Code.region id l.toArray true).wp P Q a w:=by
 simp only [sgxB,zu,decide_eq_true_eq] at hB;obtain ⟨⟨⟨⟨⟨h1,h2⟩,h3⟩,h4⟩,h5⟩,h6⟩:=hB;refine V0 m Ss Bs SL Cs hm (by rw [h1,h2];rfl) H (fun k o hk ho s hs vals w hD hst=>?_) (fun vals w hR hst=>?_)
 ·obtain ⟨d,g,ss,hd,hg,hss,hh⟩:=Xg step k o (by rw [wh,if_pos hk];exact ho);have hdep:d.map (·.1)=qm l.toArray k:=by
   have:=congrArg (·[k]?) h6;simp only [yf,hd,Qb] at this;rw [List.getElem?_range hk] at this;simpa using this
  have hslots:Zj l.toArray d=true:=zF.1 h5 d (zy hd);have hgk:gAt Ss k=g:=(by simp [gAt,List.getD,hg]);have hsk:SL.getD k []=ss:=(by simp [List.getD,hss]);rw [qQ] at hh;have:=Wh hh s (hsk ▸ hs) vals w (YA (by rw [← hgk];exact hD)) hst;rw [kM vals d a hslots,hdep] at this;rw [hgk];exact this
 ·have:=fin vals w (YA fun i hi=>hR i (zJ.1 hi)) hst;rwa [kM vals S a h3,h4,← vA] at this
end
end
section
open Go.RowKit
theorem PS:(∀ (ps:List (Nat×Tmp)) (vals:Nat->Value) (a:Act),yu ps vals a=ps.foldl (fun a p=>a.put (some p.2) (vals p.1)) a)∧(∀ (f:Act->Nat×Tmp->Act) (b:Act),List.foldl f b []=b)∧(∀ (f:Act->Nat×Tmp->Act) (b:Act) (p:Nat×Tmp) (ps:List (Nat×Tmp)),List.foldl f b (p::ps)=List.foldl f (f b p) ps) ∧
  (∀ (a:Act) (t:Tmp) (v:Value),a.put (some t) v={ a with tmps:=a.tmps.setIfInBounds t v })∧(∀ (l:List Value) (i:Nat) (v:Value),l.toArray.setIfInBounds i v=(l.set i v).toArray)∧(∀ (a b:Value) (l:List Value),(a::l).set 0 b=b::l)∧(∀ (a b:Value) (l:List Value) (n:Nat),(a::l).set (n+1) b=a::l.set n b) ∧
  (∀ l:List Oper,l.drop 0=l)∧(∀ (n:Nat) (o:Oper) (l:List Oper),(o::l).drop (n+1)=l.drop n) :=
 ⟨fun _ _ _=>rfl,fun _ _=>rfl,fun _ _ _ _=>rfl,fun _ _ _=>rfl,fun l i v=>zf l i v,fun _ _ _=>rfl,fun _ _ _ _=>rfl,fun _=>rfl,fun _ _ _=>rfl⟩
theorem CA:(∀ (Cs:List ((Nat->Value)->World->Prop)) (s:Nat) (vals:Nat->Value) (w:World),cAt Cs s vals w=Cs.getD s (fun _ _=>True) vals w)∧(∀ (C d:(Nat->Value)->World->Prop) (Cs:List ((Nat->Value)->World->Prop)),(C::Cs).getD 0 d=C)∧(∀ (C d:(Nat->Value)->World->Prop) (Cs:List ((Nat->Value)->World->Prop)) (n:Nat),(C::Cs).getD (n+1) d=Cs.getD n d) ∧
  (∀ (n:Nat) (l:List Nat),(n::l).length=l.length+1)∧([]:List Nat).length=0 :=
 ⟨fun _ _ _ _=>rfl,fun _ _ _=>rfl,fun _ _ _ _=>rfl,fun _ _=>rfl,rfl⟩
theorem GF:(∀ (Ss:List GS) (vals:Nat->Value),Zw Ss vals []=True)∧(∀ (Ss:List GS) (vals:Nat->Value) (i:Nat) (is:List Nat),Zw Ss vals (i::is)=((Ss.getD i ⟨[],fun _ _=>True⟩).R (vals i) ((Ss.getD i ⟨[],fun _ _=>True⟩).D.map vals)∧Zw Ss vals is)) ∧
  (∀ (C d:GS) (Cs:List GS),(C::Cs).getD 0 d=C)∧(∀ (C d:GS) (Cs:List GS) (n:Nat),(C::Cs).getD (n+1) d=Cs.getD n d)∧(∀ p:Prop,(True∧p)=p)∧(∀ p:Prop,(p∧True)=p)∧(∀ n:Nat,zk n=zk.loop n [])∧(∀ l:List Nat,zk.loop 0 l=l)∧(∀ (n:Nat) (l:List Nat),zk.loop (n+1) l=zk.loop n (n::l)) :=
 ⟨fun _ _=>rfl,fun _ _ _ _=>rfl,fun _ _ _=>rfl,fun _ _ _ _=>rfl,fun p=>true_and p,fun p=>and_true p,fun _=>rfl,fun _=>rfl,fun _ _=>rfl⟩
theorem StStep.celC {ops:Array Oper} {a:Act} {w:World} {o:Oper} {Rr:Value->World->Prop} {ty:TypeId} {x:Operand} (hw:Region.wanted o (yielded ops a.tmps)=true) (ho:o.op=.load ty x) {g off:Nat} (hx:a.eval x=.pointer (some ⟨g,off,none⟩)) (hr:je ty=true) {v:Value} (hc:w.cell? ⟨g,off,none⟩=some v) (h:Rr v w):StStep zb ops o a w Rr :=
 StStep.val hw (by
  have hr:=qB hr;unfold xj at hr;simp only [zu,beq_iff_eq] at hr;have hl:(Instr.loadAt ty (.pointer (some ⟨g,off,none⟩))).run zb w=.ok v w:=by
   cases hu:zb.underlying ty with
   |none=>simp [hu] at hr
   |some d =>
    have hagg:(isAgg ty).run zb w=.ok false w:=by
     unfold isAgg;rw [Sem.run_bind,run_underlying hu w];simp only [hu] at hr;cases d <;> simp_all
    simp [Instr.loadAt,Instr.sureAddr,loadVar,Sem.run_bind,hagg,run_load,hc]
  unfold execOp;simp only [ho,hx,Sem.run_bind,hl,Result.andThen_ok];rfl) h
theorem lk {p:Prop} (h:p:=by first|refine StStep.cellT rfl rfl rfl gt rfl rfl ⟨rfl,HC⟩|refine StStep.wholeT rfl rfl rfl gt rfl ⟨rfl,HC⟩|refine StStep.celC rfl rfl rfl rfl kc ⟨rfl,HC⟩):p:=h
theorem ql {p:Prop} (h:p:=by
 intro vals wx hd HC;first|(simp only [GF] at hd;simp only [PS,hd];clear hd)|(clear hd;simp only [PS])
 have H:=HC;simp only [CA] at H;first|exact lk|(obtain ⟨_,H⟩:=H;first|exact lk|(obtain ⟨_,H⟩:=H;first|exact lk|(obtain ⟨_,H⟩:=H;first|exact lk|(obtain ⟨_,H⟩:=H;first|exact lk|(obtain ⟨_,H⟩:=H;exact lk)))))):p:=h
theorem qo {p:Prop} (h:p:=by
 intro vals wx hd HC;first|(simp only [GF] at hd;simp only [PS,hd];clear hd)|(clear hd;simp only [PS])
 go_simp;first|exact HC|exact ⟨rfl,HC⟩|exact ⟨IntWalk.i64_in _ (by omega),HC⟩):p:=h
theorem nR {P Q:Prop} (q:Q) (h:Q->P:=by
 intro hq;first|(refine bodyPost_end (results_none rfl _ _ _) rfl ?_)|(refine bodyPost_ret (results_none rfl _ _ _) rfl ?_)|((try simp only [Exit.inBlock,Exit.then]);refine bodyPost_end (results_none rfl _ _ _) rfl ?_)
 exact hq):P:=h q
end
section
open Go.RowKit Go.Maps
attribute [local go_sem] qt
structure Arr (C:Array Value) (cap:Nat) (f:Nat->Value) (new old:List Nat) (a:Nat):Prop where
 size:C.size=cap
 nw:∀ (p x:Nat),new[p]?=some x->C[p]?=some (f x)
 od:∀ (p x:Nat),a<=p->old[p]?=some x->C[p]?=some (f x)
def xK (C:Array Value) (j:Nat) (news:List Value):Array Value:=(C.toList.take j++news++C.toList.drop (j+news.length)).toArray
theorem vU (C:Array Value) (j:Nat) (news:List Value) (h:j+news.length<=C.size) (p:Nat):(xK C j news)[p]?=if p<j then C[p]? else if p<j+news.length then news[p-j]? else C[p]?:=by
 unfold xK;have hl:(C.toList.take j).length=j:=(by rw [qg];simp;omega);rw [List.getElem?_toArray,zQ,yS,hl];split
 ·rename_i h1;rw [wh,if_pos h1];simp
 ·rename_i h1;rw [yS];split
  ·rename_i h2;rw [if_pos (by omega)]
  ·rename_i h2;rw [if_neg (by omega),yh];rw [show j+news.length+(p-j-news.length)=p by omega];simp
theorem wb (C:Array Value) (j:Nat) (news:List Value) (h:j+news.length<=C.size):(xK C j news).size=C.size:=by
 unfold xK;simp;omega
theorem Arr.app {C:Array Value} {cap:Nat} {f:Nat->Value} {new old:List Nat} {a a':Nat} (h:Arr C cap f new old a) (ys:List Nat) (h1:a<=a') (h2:new.length+ys.length<=a') (h3:new.length+ys.length<=cap):Arr (xK C new.length (ys.map f)) cap f (new++ys) old a':=by
 have hfit:new.length+(ys.map f).length<=C.size:=(by rw [h.size,qd];exact h3);refine ⟨by rw [wb _ _ _ hfit];exact h.size,fun p x hp=>?_,fun p x hp ho=>?_⟩
 ·rw [vU _ _ _ hfit,qd];rw [yS] at hp;split at hp
  ·rename_i h4;rw [if_pos h4];exact h.nw p x hp
  ·rename_i h4;have:=yE hp;rw [if_neg h4,if_pos (by omega),yf,hp];rfl
 ·rw [vU _ _ _ hfit,qd,if_neg (by omega),if_neg (by omega)];exact h.od p x (by omega) ho
theorem Arr.start {C:Array Value} {cap:Nat} {f:Nat->Value} {old:List Nat} {a:Nat} (h:Arr C cap f old [] a):Arr C cap f [] old 0:=⟨h.size,by simp,fun p x _ hp=>h.nw p x hp⟩
theorem Arr.forget {C:Array Value} {cap:Nat} {f:Nat->Value} {new old:List Nat} {a:Nat} (h:Arr C cap f new old a):Arr C cap f new [] 0:=⟨h.size,h.nw,by simp⟩
theorem Arr.len {C:Array Value} {cap:Nat} {f:Nat->Value} {new old:List Nat} {a:Nat} (h:Arr C cap f new old a):new.length<=cap:=by
 rcases qk new.length with h0|h0
 ·omega
 ·have:=h.nw (new.length-1) (new[new.length-1]'(by omega)) (by simp);have:=(yV.1 this).1;rw [h.size] at this;omega
def fI (x:Nat):Value:=.int .i64 x
def fU (x:Nat):Value:=.int .u64 x
section
variable {ops:Array Oper} {Q:Exit->Act->World->Prop} {rest:List Oper} {a:Act} {w w0:World} {M:List Nat} {L R:List As} {o1:Oper}
theorem VT {t e:TypeId} (hte:yv t=some e) {z:Value} {bytes:Nat} (hi:xx e=some (z,1,bytes)) (ty:TypeId) {g j cap s o m c:Nat} {cur:Array Value} (hg:w.heap[g]?=some (.cells cur e)) {news:List Value} (hl:news.length=m) (hnews:∀ i u,news[i]?=some u->w.cell? ⟨s,o+i,none⟩=some u) (h1:∀ u∈news,u.oneCell'=true) (hroom:j+m<=cap) (hcap:cur.size=cap) :
  (Builtin.append_ #[t,t] ty #[.slice (some ⟨g,0,none⟩) j cap,.slice (some ⟨s,o,none⟩) m c]).run zb w=.ok (.slice (some ⟨g,0,none⟩) (j+m) cap) (w.setRow g (xK cur j news)):=by
 obtain ⟨i,h2,h3,h4,h5⟩:=x6 hi;have:=run_append_room (P:=zb) w t ty e i (yi hte) h2 g j cap cur hg ⟨s,o,none⟩ m c news (by rw [h4,hl];simp) (fun k u hk=>by rw [Addr.add_mid];exact hnews k u hk) h1 hroom (by rw [h4,hl,hcap];omega);rw [h4,Nat.mul_one] at this;exact this
theorem AtAppend.room {t e:TypeId} {x y:Operand} (H:St w0 M L w) (hw:Region.wanted o1 (yielded ops a.tmps)=true) (ho:o1.op=.call ⟨.builtin .append,#[x,y],#[t,t]⟩) (hte:yv t=some e) {z:Value} {bytes:Nat} (hi:xx e=some (z,1,bytes))
  {g j cap:Nat} (hx:yU a x=some (.slice (some ⟨g,0,none⟩) j cap)) {s o m c:Nat} (hy:a.eval y=.slice (some ⟨s,o,none⟩) m c) {cur:Array Value} (hp:Pick L (blk g (.cells cur e)) R) (news:List Value) (hl:news.length=m) (hnews:∀ i u,news[i]?=some u->w.cell? ⟨s,o+i,none⟩=some u) (h1:∀ u∈news,u.oneCell'=true) (hroom:j+m<=cap) (hcap:cur.size=cap)
  (h:∀ w',St w0 M (blk g (.cells (xK cur j news) e)::R) w'->wpList zb ops Q rest (a.put o1.dst (.slice (some ⟨g,0,none⟩) (j+m) cap)) w'):AtAppend zb ops Q o1 t x y rest a w :=
 wpList_step fun _ hK=>by
  rw [if_pos hw];have H':=H.pick hp;have hg:w.heap[g]?=some (.cells cur e):=H'.at Pick.here;have hr:=VT (c:=c) hte hi o1.type hg hl hnews h1 hroom hcap;unfold Oper.wp execOp;simp only [ho,resolve,invoke,builtin,Sem.run_bind,Sem.run_pure,Result.andThen_ok,xo,zX,ye,yg hx,hy,hr];exact hK _ _ (h _ (H'.setRow Upd.here))
theorem StStep.room {Rr:Value->World->Prop} {t e:TypeId} {x y:Operand} {o:Oper} (hw:Region.wanted o (yielded ops a.tmps)=true) (ho:o.op=.call ⟨.builtin .append,#[x,y],#[t,t]⟩) (hte:yv t=some e) {z:Value} {bytes:Nat} (hi:xx e=some (z,1,bytes))
  {g j cap:Nat} (hx:yU a x=some (.slice (some ⟨g,0,none⟩) j cap)) {s of m c:Nat} (hy:yU a y=some (.slice (some ⟨s,of,none⟩) m c)) {cur:Array Value} (H:St w0 M (blk g (.cells cur e)::L) w) (news:List Value) (hl:news.length=m) (hnews:∀ i u,news[i]?=some u->w.cell? ⟨s,of+i,none⟩=some u) (h1:∀ u∈news,u.oneCell'=true) (hroom:j+m<=cap) (hcap:cur.size=cap)
  (h:∀ w',St w0 M (blk g (.cells (xK cur j news) e)::L) w'->Rr (.slice (some ⟨g,0,none⟩) (j+m) cap) w'):StStep zb ops o a w Rr:=by
 have hg:w.heap[g]?=some (.cells cur e):=H.at Pick.here;exact StStep.val hw (by unfold execOp;simp only [ho,resolve,invoke,builtin,Sem.run_bind,Sem.run_pure,Result.andThen_ok,xo,zX,ye,yg hx,yg hy,VT hte hi o.type hg hl hnews h1 hroom hcap]) (h _ (H.setRow Upd.here))
end
end
section
open Go.RowKit Go.Maps
attribute [local go_sem] qt
inductive Picks:List As->List As->Prop
 |nil {L:List As}:Picks L []
 |cons {L R L':List As} {A:As}:Pick L A R->Picks R L'->Picks L (A::L')
theorem Picks.perm {L L':List As} (h:Picks L L'):∃ R,L.Perm (L'++R):=by
  induction h with
  | nil=>exact ⟨_,wg.refl _⟩
  | cons h1 _ ih => obtain ⟨R, hR⟩ := ih
                    exact ⟨R,h1.perm.trans (hR.cons _)⟩
theorem St.picks {w0 w:World} {M:List Nat} {L L':List As} (h:St w0 M L w) (hp:Picks L L'):St w0 M L' w:=by
 obtain ⟨R,hR⟩:=hp.perm;have k:=h.perm hR;exact ⟨k.os,k.tape,k.output,k.size,k.keep,fun X hX=>k.ho X (List.mem_append_left _ hX),fun X hX=>k.own X (List.mem_append_left _ hX),k.dis.sublist (List.sublist_append_left _ _)⟩
structure W0 (X:Px) (CI CK:Array Value) (ci ck:Nat) (ids:List Nat) (ts:List Tr):Prop where
 den:DenL X.S ids ts
 i:Arr CI ci fI ids [] 0
 k:Arr CK ck fU (ts.map Tr.key) [] 0
def xe (ts:List Tr):Nat:=(ts.map Tr.len).sum
theorem yB (t:Tr) (l:List Tr):xe (t::l)=t.len+xe l:=rfl
theorem yx (a b:List Tr):xe (a++b)=xe a+xe b:=by simp [xe]
theorem Wn (k:Nat) (t:Tr):xe (zd k t)=t.len*k:=by
 induction k with
 |zero=>rfl
 |succ k ih=>rw [zS,yB,ih,Nat.mul_succ,kf]
theorem Vy (l:List Tr):∀ p∈qU l,p.1.len*p.2<=xe l:=by
 intro p hp;have h:=vx l;obtain ⟨A,B,e⟩:=List.append_of_mem hp;rw [e,zI,zt] at h;have h2:xe l=xe (A.flatMap fun p=>zd p.2 p.1)+(xe (zd p.2 p.1)+xe (B.flatMap fun p=>zd p.2 p.1)):=(by rw [← h,yx,yx]);rw [Wn] at h2;omega
abbrev XB (X:Px) (gi gk ci ck n:Nat) (new:List Tr) (M:List Nat) (w:World) (e:Ending) (w':World):Prop :=
  ∃ (X':Px) (CI CK:Array Value),X.Ext X'∧zK X'∧St w M [pA X',blk gi (.cells CI 26),blk gk (.cells CK 74)] w' ∧
    ((∃ ids,e=.returned (.tuple #[.agg #[.slice (some ⟨gi,0,none⟩) new.length ci,.slice (some ⟨gk,0,none⟩) new.length ck],.nilIface])∧W0 X' CI CK ci ck ids new∧X'.S.list.length+new.length<=X.S.list.length+n) ∨
     (e=.returned (.tuple #[.agg #[.slice none 0 0,.slice none 0 0],EV 3])∧X'.S.most<=X'.S.list.length∧X'.S.list.length+new.length<X.S.list.length+n))
structure RunsIn (X X':Px) (G:List (Tr×Nat)) (gs:List (Nat×Nat)) (ids:List Nat) (ts:List Tr) (k at_:Nat) (CI CK:Array Value) (ci ck:Nat) (nids:List Nat):Prop where
 ext:X.Ext X'
 ok:zK X'
 hk:k<=gs.length
 hat:at_=((gs.take k).map (·.2)).sum
 den:DenL X'.S nids ((G.take k).map jb)
 i:Arr CI ci fI nids ids at_
 kk:Arr CK ck fU (((G.take k).map jb).map Tr.key) (ts.map Tr.key) at_
 size:X'.S.list.length+k<=X.S.list.length+at_
def RunsRel (X:Px) (G:List (Tr×Nat)) (gs:List (Nat×Nat)) (ids:List Nat) (ts:List Tr) (gi gk ci ck gg cg b3 b4 b6 n ng:Nat) (M:List Nat) (w:World) (v7 v24:Value) (wr:World):Prop :=
 ∃ (X':Px) (k at_:Nat) (CI CK:Array Value) (nids:List Nat),v7=.int .i64 at_∧v24=.int .i64 k∧RunsIn X X' G gs ids ts k at_ CI CK ci ck nids ∧
  St w M [pA X',blk gi (.cells CI 26),blk gk (.cells CK 74),blk b3 (.cells #[.slice (some ⟨gi,0,none⟩) n ci,.slice (some ⟨gk,0,none⟩) n ck] 122),blk b4 (.cells #[.slice none 0 0,.slice none 0 0] 122),blk b6 (.cells #[.slice (some ⟨gi,0,none⟩) k ci,.slice (some ⟨gk,0,none⟩) k ck] 122),zc wy 179 2 (.slice (some ⟨gg,0,none⟩) ng cg) gs] wr
theorem sum_ge {l:List (Nat×Nat)} (h:∀ p∈l,1<=p.2):l.length<=(l.map (·.2)).sum:=by
 induction l with
 |nil=>simp
 |cons x l ih =>
  have:=h x (by simp);have:=ih fun p hp=>h p (by simp [hp])
  simp;omega
theorem ZI (gs:List (Nat×Nat)):(gs.flatMap fun p=>zd p.2 p.1).length=(gs.map (·.2)).sum:=by
 induction gs with
 |nil=>rfl
 |cons x l ih=>simp [ih]
theorem JY {gs:List (Nat×Nat)} {k:Nat} {p:Nat×Nat} (h:gs[k]?=some p):(gs.map (·.2)).sum=((gs.take k).map (·.2)).sum+(p.2+((gs.drop (k+1)).map (·.2)).sum)∧((gs.take (k+1)).map (·.2)).sum=((gs.take k).map (·.2)).sum+p.2:=by
 have e:=vI h;have e2:gs.take (k+1)=gs.take k++[p]:=(by rw [x5,h];rfl);constructor
 ·conv=>lhs;rw [e]
  simp
 ·rw [e2];simp
theorem run_at {gs:List (Nat×Nat)} {ids:List Nat} (h:GrN ids gs) {k:Nat} {p:Nat×Nat} (hp:gs[k]?=some p):ids[((gs.take k).map (·.2)).sum]?=some p.1:=by
 have hpos:=h.pos p (zy hp);rw [← h.flat];have e:=vI hp;have e2:(gs.flatMap fun p=>zd p.2 p.1)=(gs.take k).flatMap (fun p=>zd p.2 p.1)++(zd p.2 p.1++(gs.drop (k+1)).flatMap fun p=>zd p.2 p.1):=by
  conv=>lhs;rw [e]
  simp
 rw [e2,yd (by rw [ZI];exact zr _),ZI,QL];obtain ⟨q,hq⟩:=zA (show p.2≠0 by omega);rw [hq,zS];rfl
theorem Q1 {w:World} {b:Nat} {v:Value} {e:TypeId} (h:w.heap[b]?=some (.cells #[v] e)):∀ (i:Nat) (u:Value),[v][i]?=some u->w.cell? ⟨b,0+i,none⟩=some u:=by
 intro i u hu;cases i with
 |zero=>rw [cell_of_row w b (0+0) #[v] e (0,0) h];simpa using hu
 |succ i=>simp at hu
theorem arr_rng {w:World} {g:Nat} {C:Array Value} {e:TypeId} {cap a:Nat} {f:Nat->Value} {new old:List Nat} {enc:Nat->List Value} (henc:∀ x,enc x=[f x]) (h:(blk g (.cells C e)).ho w) (hA:Arr C cap f new old a):w.rangeAt g 0 (zU enc new):=by
 intro j v hj;have hfl:zU enc new=new.map f:=by
  unfold zU;clear hj hA;induction new with
  |nil=>rfl
  |cons x l ih=>rw [zt,zX,henc,ih];rfl
 rw [hfl,yf] at hj;cases hn:new[j]? with
 |none=>rw [hn] at hj;simp at hj
 |some x =>
  rw [hn] at hj;simp at hj;subst hj;rw [qQ];exact zV h (hA.nw j x hn)
theorem V2 {w:World} {g:Nat} {C:Array Value} {e:TypeId} {cap a:Nat} {f:Nat->Value} {new old:List Nat} {enc:Nat->List Value} (henc:∀ x,enc x=[f x]) (h:(blk g (.cells C e)).ho w) (hA:Arr C cap f new old a):(qX [(g,0,zU enc new)]).ho w:=by
 rw [kV];intro x hx;simp at hx;subst hx;rw [xp] at h;exact ⟨lt_of_block h,arr_rng henc (by rw [xp];exact h) hA⟩
theorem arr_row {g cap:Nat} {enc:Nat->List Value} {new:List Nat} (hl:new.length<=maxLen):RowIn [(g,0,zU enc new)] enc 1 (.slice (some ⟨g,0,none⟩) new.length cap) new:=⟨_,_,rfl,hl,fun _=>⟨g,0,rfl,by simp⟩⟩
theorem grp_at {S:Sto} {gs:List (Nat×Nat)} {G:List (Tr×Nat)} (h1:DenL S (gs.map (·.1)) (G.map (·.1))) (h2:gs.map (·.2)=G.map (·.2)) {k:Nat} {p:Nat×Nat} (hp:gs[k]?=some p):∃ t,G[k]?=some (t,p.2)∧Den S p.1 t:=by
 obtain ⟨t,ht,hd⟩:=h1.get (i:=k) (a:=p.1) (by rw [yf,hp];rfl);rw [yf] at ht;have h3:(G.map (·.2))[k]?=some p.2:=(by rw [← h2,yf,hp];rfl);rw [yf] at h3;cases hG:G[k]? with
 |none=>rw [hG] at ht;simp at ht
 |some q =>
  rw [hG] at ht h3;simp at ht h3;exact ⟨t,by rw [← ht,← h3],hd⟩
theorem RunsIn.step {X X1 X2:Px} {G:List (Tr×Nat)} {gs:List (Nat×Nat)} {ids nids:List Nat} {ts:List Tr} {k at_ ci ck sym tm id:Nat} {tr:Tr} {C1 K1:Array Value} (h:RunsIn X X1 G gs ids ts k at_ C1 K1 ci ck nids) (hg:gs[k]?=some (sym,tm)) (hG:G[k]?=some (tr,tm)) (hpos:1<=tm) (ext:X1.Ext X2) (ok:zK X2) (hid:Den X2.S id (jb (tr,tm))) (hsz:X2.S.list.length<=X1.S.list.length+(tm-1)) (hnl:nids.length=k) (hka:k<=at_) (hci:k+1<=ci) (hck:k+1<=ck) {ky:Nat} (hky:(jb (tr,tm)).key=ky) :
  RunsIn X X2 G gs ids ts (k+1) (at_+tm) (xK C1 k [.int .i64 id]) (xK K1 k [.int .u64 ky]) ci ck (nids++[id]):=by
 have e:G.take (k+1)=G.take k++[(tr,tm)]:=(by rw [x5,hG];rfl);have hkl:(((G.take k).map jb).map Tr.key).length=k:=by
  rw [qd,qd,qg];have:=yE hG;omega
 refine ⟨h.ext.trans ext,ok,yE hg,by rw [(JY hg).2,← h.hat],?_,?_,?_,?_⟩
 ·rw [e,xH];exact (h.den.le h.ok.ok ext.le).append ⟨hid,trivial⟩
 ·have:=h.i.app [id] (a':=at_+tm) (by omega) (by rw [hnl];simp;omega) (by rw [hnl];simp;omega);rw [hnl] at this;exact this
 ·have:=h.kk.app [ky] (a':=at_+tm) (by omega) (by rw [hkl];simp;omega) (by rw [hkl];simp;omega);rw [hkl] at this;rw [e,xH,xH];simp only [zX,ye,hky];exact this
 ·have:=h.size;omega
structure MkFact (X X':Px) (t:Tr) (id:Nat) (c:Option Nat):Prop where
 ext:X.Ext X'
 ok:zK X'
 len:X'.S.list.length<=X.S.list.length+1
 ans:(c=none∧Den X'.S id t)∨(c=some 3∧id=0∧X'.S=X.S∧X.S.most<=X.S.list.length)
theorem X8 {v u:Value} (h:[v]=[u]):u=v:=by simpa using h.symm
attribute [local go_sem] StStep jw yM in
theorem runs_p {X:Px} {gi gk ci ck:Nat} {CI CK:Array Value} {ids:List Nat} {ts:List Tr} (hX:zK X) (hq:W0 X CI CK ci ck ids ts) (h1:1<=ids.length) (hlen:ids.length<=65536) (hml:xe ts<=yG) (w:World) (h:(((pA X).sep ((blk gi (.cells CI 26)).sep (blk gk (.cells CK 74)))).sep deA).ho w) :
  Calls zb 63 #[.pointer (some ⟨X.p,0,none⟩),.agg #[.slice (some ⟨gi,0,none⟩) ids.length ci,.slice (some ⟨gk,0,none⟩) ids.length ck]] w (XB X gi gk ci ck ids.length (runs ts) ((pA X).sep ((blk gi (.cells CI 26)).sep (blk gk (.cells CK 74)))).fp w):=by
 rw [qz] at h;obtain ⟨k1,k2,hd⟩:=h;have H:=St.one k1;have HK:Ks w ((pA X).sep ((blk gi (.cells CI 26)).sep (blk gk (.cells CK 74)))).fp [deA]:=⟨by simpa using k2,by simpa using fun b hb hm=>hd b hm hb⟩
 generalize ((pA X).sep ((blk gi (.cells CI 26)).sep (blk gk (.cells CK 74)))).fp=M at *;replace H:=H.sep;replace H:=(H.pick (.there .here)).sep;have hci:=hq.i.len;have hck:=hq.k.len;rw [qd,← hq.den.len] at hck;have HRU:Hid (∀ w,(blk gi (.cells CI 26)).ho w->Calls zb 97 #[.slice (some ⟨gi,0,none⟩) ids.length ci] w fun e w'=>∃ ad cp gs,e=.returned (.slice ad gs.length cp)∧GrN ids gs∧St w [] [zc wy 179 2 (.slice ad gs.length cp) gs] w'):=zh fun w h=>runs_c (arr_row (by unfold maxLen;omega)) hlen w (V2 (enc:=qE) (fun _=>rfl) h hq.i)
 have HQ:=zh hq;have HPX:=zh hX;have HML:=zh hml;obtain ⟨n,hn⟩:∃ n,ids.length=n:=⟨_,rfl⟩
 have HN:=zh hn;rw [hn] at hlen h1 hci hck HRU ⊢;clear k1 k2 hd hq hX hml hn;go_enter Tryz.func63,Tryz.ntmps63;go_wp2_with (first|refine sL ?_|(refine sS ?_;clear H;intros;rename_i H));refine zG H 8 [(7,122,#[.slice none 0 0,.slice none 0 0],none)] [(7,6)] (by kernel_rfl) (by kernel_rfl) ?_;apply Exists.intro;refine ⟨fun w1 hw1 HX=>?_,fun bs wr Hr=>?_⟩
 ·refine sG ?_;repeat (first|refine sQ ?_|fail|go_big_quiet_step (fail))
  apply wpQuiet_nil;first|refine ⟨jC rfl rfl hw1 rfl rfl,?_⟩|refine ⟨fstep_slice1 rfl rfl rfl rfl rfl rfl rfl rfl rfl hw1,?_⟩
  simp only [Act.put,puA,puB,puC];repeat (first|refine sQ ?_|fail|go_big_quiet_step (fail))
  exact wpQuiet_nil rfl
 clear H;have H:=Hr;clear Hr;replace H:=sH H;refine sT ?_;go_wp2_with (first|refine sL ?_|(refine sS ?_;clear H;intros;rename_i H)|(go_at_call 97;with_reducible refine zm (HRU.out _ (H.get pk)) ?_;rintro e wc ⟨ad,cg,gs,rfl,hgr,hb⟩;replace H:=zn (H.call0 hb);clear hb;have HGR:=zh hgr;clear hgr));rename_i b3 _ b4 _ _ _ _;obtain ⟨b6,hb6⟩:∃ b6,bs 7=b6:=⟨_,rfl⟩
 simp only [hb6] at H ⊢;clear hb6;have hgs0:0<gs.length:=by
  rcases qk gs.length with h|h
  ·have h2:=HGR.out.flat;rw [List.length_eq_zero_iff.1 h] at h2;have h3:=HN.out;rw [← h2] at h3;simp at h3;omega
  ·exact h
 obtain ⟨gg,cgg,e9,_,_⟩:=q8 (H.get (A:=zc wy 179 2 (.slice ad gs.length cg) gs) pk) hgs0;injection e9 with e9 _ e8
 subst e9;subst e8;obtain ⟨G,hG,hG1,hG2⟩:=HGR.out.trees HPX.out.ok HQ.out.den;have hGl:G.length=gs.length:=(by have:=congrArg ym hG2;simpa using this.symm);have hngn:gs.length<=n:=by
  have h2:=congrArg ym HGR.out.flat;rw [ZI,HN.out] at h2;have:=sum_ge HGR.out.pos;omega
 obtain ⟨ng,hng⟩:∃ ng,gs.length=ng:=⟨_,rfl⟩
 have HNG:=zh hng;have HGL:=zh (hGl.trans hng);have HG:=zh hG;have HG1:=zh hG1;have HG2:=zh hG2;rw [hng] at H hngn ⊢;clear hgs0 hng hGl hG hG1 hG2
 go_loopw [7,24] (fun v7 v24 wr=>RunsRel X G gs ids ts gi gk ci ck gg cg b3 b4 b6 n ng M w v7 v24 wr) (fun _ v24 _=>ng-(intOf v24).toNat)
 case atStart =>
  have hq:=HQ.out;exact ⟨X,0,0,CI,CK,[],rfl,rfl,⟨.refl _,HPX.out,qy _,rfl,by simp [DenL],hq.i.start,hq.k.start,zr _⟩,H.picks (.cons pk (.cons pk (.cons pk (.cons pk (.cons pk (.cons pk (.cons pk .nil)))))))⟩
 case round =>
  clear H;obtain ⟨X1,k,at_,C1,K1,nids,rfl,rfl,hin,H⟩:=hrel;have hkl:=hin.hk;rw [HNG.out] at hkl;have hnl:nids.length=k:=by
   have:=hin.den.len;rw [qd,qg,HGL.out] at this;omega
  have HIN:=zh hin;have HNL:=zh hnl;have hat:=hin.hat;clear hin hnl;by_cases hlt:k<ng
  ·obtain ⟨⟨sym,tm⟩,hgk⟩:∃ p,gs[k]?=some p:=⟨_,zg (by rw [HNG.out];exact hlt)⟩
   obtain ⟨tr,hGk,hden0⟩:=grp_at HG1.out HG2.out hgk;have hpos:1<=tm:=HGR.out.pos _ (zy hgk);have hidat:=run_at HGR.out hgk;rw [← hat] at hidat;obtain ⟨hs1,hs2⟩:=JY hgk;rw [← hat] at hs1 hs2;have hfl:=congrArg ym HGR.out.flat;rw [ZI,HN.out] at hfl;simp only at hs1 hs2;have hatn:at_+tm<=n:=(by omega);have hkey:(ts.map Tr.key)[at_]?=some tr.key:=by
    obtain ⟨t',ht',hd'⟩:=HQ.out.den.get hidat;rw [yf,ht',← hd'.2.2,hden0.2.2];rfl
   have hk_at:k<=at_:=by
    have:=sum_ge (l:=gs.take k) fun p hp=>HGR.out.pos p (List.mem_of_mem_take hp)
    rw [qg,HNG.out,← hat] at this;omega
   have hrest:ng-(k+1)<=n-(at_+tm):=by
    have:=sum_ge (l:=gs.drop (k+1)) fun p hp=>HGR.out.pos p (List.mem_of_mem_drop hp)
    rw [qC,HNG.out] at this;omega
   have HREST:=zh hrest;clear hrest;have hden:Den X1.S sym tr:=hden0.le HPX.out.ok HIN.out.ext.le;have hlenp:tr.len*tm<=yG:=qs (Vy ts _ (by rw [HG.out];exact zy hGk)) HML.out;have HKC:Hid (∀ w,(blk gk (.cells K1 74)).ho w->w.cell? ⟨gk,at_,none⟩=some (.int .u64 tr.key)):=zh fun w h=>zV h (HIN.out.kk.od at_ _ (zr _) hkey)
   have HGC:=zh hgk;have HGK:=zh hGk;have HDEN:=zh hden;have HS2:=zh hs2;have HAT:=zh hatn;have HKAT:=zh hk_at;have HPOS:=zh hpos;have HLP:=zh hlenp;clear hgk hGk hden0 hidat hs1 hs2 hfl hkey hden hlenp hat;go_wp2_with (first|refine sL ?_|(refine sS ?_;clear H;intros;rename_i H)|((with_reducible refine qh ?_);refine AtLoad.rngT (vs:=[.int .i64 sym,.int .i64 tm]) rfl rfl rfl (wd (H.get (A:=zc wy 179 2 (.slice (some ⟨gg,0,none⟩) ng cg) gs) pk) ws HGC.out) rfl ?_;simp only [Act.put,puA,puB,puC]));rename_i b9 _ _ _ _ _;refine zG H 9 [] [] (by kernel_rfl) (by kernel_rfl) ?_;apply Exists.intro;refine ⟨fun w1 hw1 HX=>?_,fun bs wr Hr=>?_⟩
   ·refine sG ?_;repeat (first|go_big_quiet_skip|refine sQ ?_|go_big_quiet_step (fail))
    exact wpQuiet_nil rfl
   clear H;have H:=Hr;clear Hr;replace H:=sH H;refine sT ?_;obtain ⟨ky0,hky0⟩:∃ ky,tr.key=ky:=⟨_,rfl⟩
   have HKY0:=zh hky0;simp only [hky0] at HKC ⊢;clear hky0;have HSI:=zh HIN.out.i.size;have HSK:=zh HIN.out.kk.size;have hck1:k+1<=ck:=(by omega);have hci1:k+1<=ci:=(by omega);by_cases htm:tm=1
   ·have d1:decide ((1:Int)<(tm:Int))=false:=(by simp;omega);have HTM:=zh htm;clear htm hpos;go_wp2_with (first|refine sL ?_|(refine sS ?_;clear H;intros;rename_i H)|((with_reducible refine qV ?_);refine AtSlice.one H rfl rfl rfl rfl rfl rfl rfl rfl rfl ?_;clear H;intro b _ H;simp only [Act.put,puA,puB,puC])|((with_reducible refine qJ ?_);first|(refine AtAppend.room H rfl rfl rfl rfl rfl rfl (cur:=C1) pk [.int .i64 sym] rfl (Q1 (H.at pk)) (by intro u hu;simp at hu;subst hu;rfl) (by omega) HSI.out ?_;clear H;intro _ H;simp only [Act.put,puA,puB,puC])|(refine AtAppend.room H rfl rfl rfl rfl rfl rfl (cur:=K1) pk [.int .u64 ky0] rfl (Q1 (H.at pk)) (by intro u hu;simp at hu;subst hu;rfl) (by omega) HSK.out ?_;clear H;intro _ H;simp only [Act.put,puA,puB,puC])));have hpw:jb (tr,tm)=tr:=(by rw [HTM.out];rfl);refine ⟨⟨X1,k+1,at_+tm,_,_,nids++[sym],by go_num,by go_num,HIN.out.step HGC.out HGK.out HPOS.out (.refl _) HIN.out.ok (by rw [hpw];exact HDEN.out) (by omega) HNL.out hk_at hci1 hck1 (ky:=ky0) (by rw [hpw];exact HKY0.out),H.picks (.cons pk (.cons pk (.cons pk (.cons pk (.cons pk (.cons pk (.cons pk .nil)))))))⟩,by simp [intOf];omega⟩
   ·have htm2:1<tm:=(by omega);have d1:decide ((1:Int)<(tm:Int))=true:=(by simp;omega);clear htm;have HC0:Hid (∀ w,(pA X1).ho w->w.cell? ⟨X.p,0,none⟩=some (.pointer (some ⟨X1.s,0,none⟩))):=zh fun w h=>by have:=Xk h;rwa [HIN.out.ext.p] at this
    have HPW:Hid (∀ w,(pA X1).ho w->Calls zb 70 #[.pointer (some ⟨X1.s,0,none⟩),.int .i64 sym,.int .i64 tm] w (QH X1 (.pow tr tm) (pA X1).fp w)):=zh fun w h=>XM HDEN.out htm2 (by omega) HLP.out HIN.out.ok w h
    have d2:=zh htm2;clear hpos;go_wp2_with (first|refine sL ?_|(refine sS ?_;clear H;intros;rename_i H));replace H:St w M [pA X1,blk gi (.cells C1 26),blk gk (.cells K1 74),blk b3 (.cells #[.slice (some ⟨gi,0,none⟩) n ci,.slice (some ⟨gk,0,none⟩) n ck] 122),blk b4 (.cells #[.slice none 0 0,.slice none 0 0] 122),blk b6 (.cells #[.slice (some ⟨gi,0,none⟩) k ci,.slice (some ⟨gk,0,none⟩) k ck] 122),zc wy 179 2 (.slice (some ⟨gg,0,none⟩) ng cg) gs,blk b9 (.cells #[.int .i64 sym,.int .i64 tm] 179)] _:=H.picks (.cons pk (.cons pk (.cons pk (.cons pk (.cons pk (.cons pk (.cons pk (.cons pk .nil))))))));refine zM 13 [⟨[],fun v _=>v=.pointer (some ⟨X.p,0,none⟩)⟩,⟨[0],fun v _=>v=.pointer (some ⟨X.p,0,none⟩)⟩,⟨[1],fun v _=>v=.pointer (some ⟨X.p,0,none⟩)⟩,⟨[2],fun v _=>v=.pointer (some ⟨X1.s,0,none⟩)⟩,⟨[],fun v _=>v=.int .i64 sym⟩,⟨[],fun v _=>v=.pointer (some ⟨b9,1,none⟩)⟩,⟨[5],fun v _=>v=.int .i64 tm⟩,⟨[3,4,6],fun v _=>∃ (id:Nat) (c:Option Nat),v=.tuple #[.int .i64 id,wI c]⟩,⟨[7],fun v ds=>ds=[v]⟩,⟨[8],fun v ds=>∃ (id:Nat) (c:Option Nat),ds=[.tuple #[.int .i64 id,wI c]]∧v=.int .i64 id⟩,⟨[8],fun v ds=>∃ (id:Nat) (c:Option Nat),ds=[.tuple #[.int .i64 id,wI c]]∧v=wI c⟩,⟨[9],fun v ds=>ds=[v]⟩,⟨[10],fun v ds=>ds=[v]⟩] [7] [[0],[0],[0],[0],[0],[0],[0],[0],[1],[1],[1],[1],[1]] [fun _ wx=>St w M [pA X1,blk gi (.cells C1 26),blk gk (.cells K1 74),blk b3 (.cells #[.slice (some ⟨gi,0,none⟩) n ci,.slice (some ⟨gk,0,none⟩) n ck] 122),blk b4 (.cells #[.slice none 0 0,.slice none 0 0] 122),blk b6 (.cells #[.slice (some ⟨gi,0,none⟩) k ci,.slice (some ⟨gk,0,none⟩) k ck] 122),zc wy 179 2 (.slice (some ⟨gg,0,none⟩) ng cg) gs,blk b9 (.cells #[.int .i64 sym,.int .i64 tm] 179)] wx,fun vals wx=>∃ (X2:Px) (id:Nat) (c:Option Nat),vals 7=.tuple #[.int .i64 id,wI c]∧MkFact X1 X2 (.pow tr tm) id c∧St w M [pA X2,blk gi (.cells C1 26),blk gk (.cells K1 74),blk b3 (.cells #[.slice (some ⟨gi,0,none⟩) n ci,.slice (some ⟨gk,0,none⟩) n ck] 122),blk b4 (.cells #[.slice none 0 0,.slice none 0 0] 122),blk b6 (.cells #[.slice (some ⟨gi,0,none⟩) k ci,.slice (some ⟨gk,0,none⟩) k ck] 122),zc wy 179 2 (.slice (some ⟨gg,0,none⟩) ng cg) gs,blk b9 (.cells #[.int .i64 sym,.int .i64 tm] 179)] wx]
     [[],[(0,39)],[(1,40)],[(2,41)],[],[],[(5,44)],[(3,42),(4,43),(6,45)],[(7,46)],[(8,38)],[(8,38)],[(9,47)],[(10,48)]] [(0,39),(1,40),(2,41),(3,42),(4,43),(5,44),(6,45),(7,46),(8,38),(9,47),(10,48),(11,10),(12,12)] (by kernel_rfl) (by kernel_rfl) H.drew ⟨⟨qo,trivial⟩,⟨qo,trivial⟩,⟨qo,trivial⟩,⟨ql,trivial⟩,⟨qo,trivial⟩,⟨qo,trivial⟩,⟨ql,trivial⟩,⟨?_,trivial⟩,⟨?_,trivial⟩,⟨?_,trivial⟩,⟨?_,trivial⟩,⟨?_,trivial⟩,⟨?_,trivial⟩,trivial⟩ ?_
    ·intro vals wx hd HC;simp only [GF] at hd;obtain ⟨h3,h4,h6⟩:=hd;have H:=HC;simp only [CA] at H;simp only [PS,h3,h4,h6];clear h3 h4 h6 HC;go_simp;with_reducible refine zm (HPW.out _ (H.get pk)) ?_
     rintro e wc ⟨X2,id,c,rfl,m1,m2,m3,m4,hb⟩;have H2:=(H.pick pk).call hb;exact ⟨_,rfl,⟨id,c,rfl⟩,X2,id,c,rfl,⟨m1,m2,m3,m4⟩,by simpa using H2⟩
    ·intro vals wx hd HC;simp only [GF] at hd;have h7:=hd;clear hd;have H:=HC;simp only [CA] at H;obtain ⟨X2,id,c,hv7,hmk,H⟩:=H;simp only [PS];clear h7;go_simp;first|exact HC|exact ⟨rfl,HC⟩
    ·intro vals wx hd HC;simp only [GF] at hd;have h8:=hd;clear hd;have H:=HC;simp only [CA] at H;obtain ⟨X2,id,c,hv7,hmk,H⟩:=H;simp only [PS];have e8:vals 8=.tuple #[.int .i64 id,wI c]:=(by rw [← hv7];exact X8 (show [vals 7]=[vals 8] from h8));simp only [e8];clear h8;go_simp;first|exact ⟨⟨id,c,by simp [e8],rfl⟩,HC⟩|exact ⟨⟨id,rfl,c,rfl⟩,HC⟩|exact ⟨⟨c,⟨id,rfl⟩,rfl⟩,HC⟩|exact ⟨⟨id,c,rfl⟩,HC⟩|exact HC|exact ⟨⟨id,⟨rfl,c,rfl⟩,rfl⟩,HC⟩|exact ⟨⟨⟨id,rfl⟩,c,rfl⟩,HC⟩|fail "Z9"
    ·intro vals wx hd HC;simp only [GF] at hd;have h8:=hd;clear hd;have H:=HC;simp only [CA] at H;obtain ⟨X2,id,c,hv7,hmk,H⟩:=H;simp only [PS];have e8:vals 8=.tuple #[.int .i64 id,wI c]:=(by rw [← hv7];exact X8 (show [vals 7]=[vals 8] from h8));simp only [e8];clear h8;go_simp;first|exact ⟨⟨id,c,by simp [e8],rfl⟩,HC⟩|exact ⟨⟨id,rfl,c,rfl⟩,HC⟩|exact ⟨⟨c,⟨id,rfl⟩,rfl⟩,HC⟩|exact ⟨⟨id,c,rfl⟩,HC⟩|exact HC|exact ⟨⟨id,⟨rfl,c,rfl⟩,rfl⟩,HC⟩|exact ⟨⟨⟨id,rfl⟩,c,rfl⟩,HC⟩|fail "Z9"
    ·intro vals wx hd HC;simp only [GF] at hd;have h9:=hd;clear hd;have H:=HC;simp only [CA] at H;obtain ⟨X2,id,c,hv7,hmk,H⟩:=H;simp only [PS];clear h9;go_simp;first|exact HC|exact ⟨rfl,HC⟩
    ·intro vals wx hd HC;simp only [GF] at hd;have h10:=hd;clear hd;have H:=HC;simp only [CA] at H;obtain ⟨X2,id,c,hv7,hmk,H⟩:=H;simp only [PS];clear h10;go_simp;first|exact HC|exact ⟨rfl,HC⟩
    intro vals wx hd HC;have h7:=hd.2.2.2.2.2.2.2.1;have h8:=hd.2.2.2.2.2.2.2.2.1;have h9:=hd.2.2.2.2.2.2.2.2.2.1;have h10:=hd.2.2.2.2.2.2.2.2.2.2.1;have h11:=hd.2.2.2.2.2.2.2.2.2.2.2.1;have h12:=hd.2.2.2.2.2.2.2.2.2.2.2.2.1;simp only [CA] at HC;obtain ⟨X2,id,c,hv7,hmk,H⟩:=HC;simp only [GF] at hd;simp only [PS,hd];clear hd;have e8:vals 8=.tuple #[.int .i64 id,wI c]:=(by rw [← hv7];exact X8 (show [vals 7]=[vals 8] from h8));have h9':∃ (i':Nat) (c':Option Nat),[vals 8]=[.tuple #[.int .i64 i',wI c']]∧vals 9=.int .i64 i':=h9;have h10':∃ (i':Nat) (c':Option Nat),[vals 8]=[.tuple #[.int .i64 i',wI c']]∧vals 10=wI c':=h10;have e9:vals 9=.int .i64 id:=by
     obtain ⟨i',c',e,e'⟩:=h9';rw [e8] at e;simp at e;rw [e'];simp [e.1]
    have e10:vals 10=wI c:=by
     obtain ⟨i',c',e,e'⟩:=h10';rw [e8] at e;simp at e;rw [e',e.2]
    have e11:vals 11=.int .i64 id:=(by rw [← e9];exact X8 (show [vals 9]=[vals 11] from h11));have e12:vals 12=wI c:=(by rw [← e10];exact X8 (show [vals 10]=[vals 12] from h12));simp only [hv7,e8,e9,e10,e11,e12];clear e8 e9 e10 e11 e12 h8 h9 h10 h11 h12 hv7 h9' h10';have HMK:=zh hmk;obtain ⟨kp,hkp⟩:∃ kp,(Tr.pow tr tm).key=kp:=⟨_,rfl⟩
    have HKP0:=zh hkp;have hpw:jb (tr,tm)=.pow tr tm:=if_neg (show ¬ tm=1 by omega);have HPT:=zh hpw;rcases hmk.ans with ⟨rfl,hid⟩|⟨rfl,rfl,hs,hmost⟩
    ·have HID:=zh hid;have HC1:Hid (∀ w,(pA X2).ho w->w.cell? ⟨X.p,1,none⟩=some (.pointer (some ⟨X2.K.t,0,none⟩))):=zh fun w h=>by have:=pA_c1 h;rwa [HMK.out.ext.p,HIN.out.ext.p] at this
     have HKP:Hid (∀ w,((pA X2).sep deA).ho w->Calls zb 98 #[.pointer (some ⟨X2.K.t,0,none⟩),.int .i64 id] w (jL X2 (.tuple #[.int .u64 kp,.nilIface]) (pA X2).fp w)):=zh fun w h=>by rw [← HKP0.out];exact Jx HMK.out.ok HID.out w h
     clear hmk hkp hpw hid;simp only [wI] at *;go_wp2_with (first|refine sL ?_|(refine sS ?_;clear H;intros;rename_i H)|(go_at_call 98;with_reducible refine zm (HKP.out _ (H.sepK HK pk pk)) ?_;rintro e wc ⟨X3,y1,y2,y3,rfl,hb⟩;have HY:=zh (za y1 (za y2 y3));clear y1 y2 y3;replace H:=zn ((H.pick pk).call hb);clear hb)|((with_reducible refine qV ?_);refine AtSlice.one H rfl rfl rfl rfl rfl rfl rfl rfl rfl ?_;clear H;intro b _ H;simp only [Act.put,puA,puB,puC])|((with_reducible refine qJ ?_);first|(refine AtAppend.room H rfl rfl rfl rfl rfl rfl (cur:=C1) pk [.int .i64 id] rfl (Q1 (H.at pk)) (by intro u hu;simp at hu;subst hu;rfl) (by omega) HSI.out ?_;clear H;intro _ H;simp only [Act.put,puA,puB,puC])|(refine AtAppend.room H rfl rfl rfl rfl rfl rfl (cur:=K1) pk [.int .u64 kp] rfl (Q1 (H.at pk)) (by intro u hu;simp at hu;subst hu;rfl) (by omega) HSK.out ?_;clear H;intro _ H;simp only [Act.put,puA,puB,puC])));refine ⟨⟨X3,k+1,at_+tm,_,_,nids++[id],by go_num,by go_num,HIN.out.step HGC.out HGK.out HPOS.out (HMK.out.ext.trans HY.out.1) HY.out.2.1 (by rw [HPT.out,HY.out.2.2];exact HID.out) (by rw [HY.out.2.2];have:=HMK.out.len;have:=d2.out;omega) HNL.out hk_at hci1 hck1 (ky:=kp) (by rw [HPT.out];exact HKP0.out),H.picks (.cons pk (.cons pk (.cons pk (.cons pk (.cons pk (.cons pk (.cons pk .nil)))))))⟩,by simp [intOf];omega⟩
    ·clear hkp hpw;have HS:=zh hs;have HMO:=zh hmost;clear hs hmost hmk;simp only [wI,EV] at *;go_wp2_with (first|refine sL ?_|(refine sS ?_;clear H;intros;rename_i H));refine bodyPost_ret (xd rfl H rfl pk rfl rfl) rfl ?_;have hrl:(runs ts).length=ng:=(by unfold runs;rw [HG.out,qd,HGL.out]);have h6:=HIN.out.size;have h7:=HREST.out;have h8:=d2.out;refine ⟨X2,C1,K1,HIN.out.ext.trans HMK.out.ext,HMK.out.ok,H.picks (.cons pk (.cons pk (.cons pk .nil))),.inr ⟨rfl,by rw [HS.out];exact HMO.out,by rw [hrl,HS.out];omega⟩⟩
  ·obtain rfl:k=ng:=by omega
   clear hat;go_wp2_with (first|refine sL ?_|(refine sS ?_;clear H;intros;rename_i H));refine bodyPost_ret (xd rfl H rfl pk rfl rfl) rfl ?_;have hin:=HIN.out;have hgk:G.take k=G:=qp (by rw [HGL.out];exact zr _);have hgg:gs.take k=gs:=qp (by rw [HNG.out];exact zr _);have hru:runs ts=G.map jb:=(by unfold runs;rw [HG.out]);have h4:=congrArg ym HGR.out.flat;rw [ZI,HN.out] at h4;have h5:=hin.hat;rw [hgg,h4] at h5;have hden:=hin.den;have hkk:=hin.kk;have hsz:=hin.size;rw [hgk] at hden hkk;have hrl:(runs ts).length=k:=(by rw [hru,qd,HGL.out]);have hrl2:k=(runs ts).length:=hrl.symm;refine ⟨X1,C1,K1,hin.ext,hin.ok,H.picks (.cons pk (.cons pk (.cons pk .nil))),.inl ⟨nids,by rw [hrl];rfl,⟨by rw [hru];exact hden,hin.i.forget,by rw [hru];exact hkk.forget⟩,by rw [hrl];omega⟩⟩
end
section
open Go.RowKit Go.Maps
attribute [local go_sem] qt
def sqA (X:Px) (b gi gk ci ck k:Nat) (C K:Array Value):As:=(pA X).sep ((blk b (.cells #[.slice (some ⟨gi,0,none⟩) k ci,.slice (some ⟨gk,0,none⟩) k ck] 122)).sep ((blk gi (.cells C 26)).sep (blk gk (.cells K 74))))
theorem WQ {X:Px} {b gi gk ci ck k:Nat} {C K:Array Value} {w0 w:World} {M:List Nat} {R:List As} (h:St w0 M (sqA X b gi gk ci ck k C K::R) w):St w0 M (pA X::blk b (.cells #[.slice (some ⟨gi,0,none⟩) k ci,.slice (some ⟨gk,0,none⟩) k ck] 122)::blk gi (.cells C 26)::blk gk (.cells K 74)::R) w:=by
 have h1:=h.sep;have h2:=(h1.pick (.there .here)).sep;have h3:=(h2.pick (.there .here)).sep;exact (h3.pick (.there (.there .here))).pick (.there (.there (.there .here)))
theorem WR {X:Px} {b gi gk ci ck k:Nat} {C K:Array Value} {w0 w:World} {M:List Nat} {R:List As} (h:St w0 M (pA X::blk b (.cells #[.slice (some ⟨gi,0,none⟩) k ci,.slice (some ⟨gk,0,none⟩) k ck] 122)::blk gi (.cells C 26)::blk gk (.cells K 74)::R) w):St w0 M (sqA X b gi gk ci ck k C K::R) w:=by
 have h1:=(h.pick2 (.there (.there .here)) (.there (.there .here))).join;have h2:=(h1.pick (.there (.there .here))).join;exact (h2.pick (.there .here)).join
attribute [irreducible] sqA
abbrev Kd (X:Px) (b gi gk ci ck k:Nat) (C K:Array Value) (id ky:Nat) (M:List Nat) (w:World) (e:Ending) (w':World):Prop :=
 ∃ X':Px,X.Ext X'∧zK X'∧X'.S=X.S∧e=.returned .nilIface∧St w M [sqA X' b gi gk ci ck (k+1) (xK C k [.int .i64 id]) (xK K k [.int .u64 ky])] w'
theorem add_p {X:Px} {b gi gk ci ck k id ky:Nat} {C K:Array Value} {t:Tr} (hX:zK X) (hd:Den X.S id t) (hky:t.key=ky) (h1:k+1<=ci) (h2:k+1<=ck) (hk:k<=65536) (hC:C.size=ci) (hK:K.size=ck) (w:World) (h:((sqA X b gi gk ci ck k C K).sep deA).ho w) :
  Calls zb 96 #[.pointer (some ⟨X.p,0,none⟩),.pointer (some ⟨b,0,none⟩),.int .i64 id] w (Kd X b gi gk ci ck k C K id ky (sqA X b gi gk ci ck k C K).fp w):=by
 rw [qz] at h;obtain ⟨k1,k2,hd2⟩:=h;have H:=St.one k1;have HK:Ks w (sqA X b gi gk ci ck k C K).fp [deA]:=⟨by simpa using k2,by simpa using fun b hb hm=>hd2 b hm hb⟩
 replace H:=WQ H;generalize (sqA X b gi gk ci ck k C K).fp=M at *;have HC1:Hid (∀ w,(pA X).ho w->w.cell? ⟨X.p,1,none⟩=some (.pointer (some ⟨X.K.t,0,none⟩))):=zh fun w h=>pA_c1 h
 have HKP:Hid (∀ w,((pA X).sep deA).ho w->Calls zb 98 #[.pointer (some ⟨X.K.t,0,none⟩),.int .i64 id] w (jL X (.tuple #[.int .u64 ky,.nilIface]) (pA X).fp w)):=zh fun w h=>by rw [← hky];exact Jx hX hd w h
 have HSI:=zh hC;have HSK:=zh hK;clear k1 k2 hd2 hX hd hky hC hK t;go_enter Tryz.func96,Tryz.ntmps96;go_wp2_with (first|refine sL ?_|(refine sS ?_;clear H;intros;rename_i H)|(go_at_call 98;with_reducible refine zm (HKP.out _ (H.sepK HK pk pk)) ?_;rintro e wc ⟨X3,y1,y2,y3,rfl,hb⟩;have HY:=zh (za y1 (za y2 y3));clear y1 y2 y3;replace H:=zn ((H.pick pk).call hb);clear hb)|((with_reducible refine qV ?_);refine AtSlice.one H rfl rfl rfl rfl rfl rfl rfl rfl rfl ?_;clear H;intro b9 _ H;simp only [Act.put,puA,puB,puC])|((with_reducible refine qJ ?_);first|(refine AtAppend.room H rfl rfl rfl rfl rfl rfl (cur:=C) pk [.int .i64 id] rfl (Q1 (H.at pk)) (by intro u hu;simp at hu;subst hu;rfl) (by omega) HSI.out ?_;clear H;intro _ H;simp only [Act.put,puA,puB,puC])|(refine AtAppend.room H rfl rfl rfl rfl rfl rfl (cur:=K) pk [.int .u64 ky] rfl (Q1 (H.at pk)) (by intro u hu;simp at hu;subst hu;rfl) (by omega) HSK.out ?_;clear H;intro _ H;simp only [Act.put,puA,puB,puC])));go_ret;refine ⟨X3,HY.out.1,HY.out.2.1,HY.out.2.2,rfl,?_⟩;have h5:=H.picks (L':=[pA X3,blk b (.cells #[.slice (some ⟨gi,0,none⟩) (k+1) ci,.slice (some ⟨gk,0,none⟩) (k+1) ck] 122),blk gi (.cells (xK C k [.int .i64 id]) 26),blk gk (.cells (xK K k [.int .u64 ky]) 74)]) (.cons pk (.cons pk (.cons pk (.cons pk .nil))));exact WR h5
end
end Go.Proofs.YtgnppnokkdghcaaGreatDoor
